/-
  The walks (printed by my generator).
-/
import Derived.Test.YtkfcbmecmdpilaaL29
import Derived.Test.YtkfcbmecmdpilaaL27
import Derived.Test.YtkfcbmecmdpilaaSs4
set_option maxRecDepth 100000
set_option maxHeartbeats 4000000
set_option linter.unusedVariables false
namespace Go.Pw
open Go.Proofs
theorem ref18_SameOp_sim {w0 w : World} {s : PHeap} {H : List Res} {fu : Nat} {a : GOp} {b : GOp} {aa : Value} {ab : Value} {ac : Value} {aj : Value} {ak : Value} {ad : Value} {ae : Value} {af : Value} {al : Value} {am : Value} {r : Bool} (hm : ref18_SameOp_p fu a b = some r) (hS : St w0 s (H) w) (bq : SliceRep (encInt .i64) s aa a.Pre.Pos) (br : SliceRep (encInt .i64) s ab a.Pre.Neg) (bs : SliceRep encGTest s ac a.Pre.Tests) (az : SliceRep encGChange s aj a.Changes) (a7 : SliceRep encGAssign s ak a.Assigns) (bt : SliceRep (encInt .i64) s ad b.Pre.Pos) (bu : SliceRep (encInt .i64) s ae b.Pre.Neg) (bv : SliceRep encGTest s af b.Pre.Tests) (a8 : SliceRep encGChange s al b.Changes) (aB : SliceRep encGAssign s am b.Assigns) :
  Calls Try.prog 50 #[Value.agg #[Value.string (a.Name), Vi (a.Cost), aa, ab, ac, aj, ak], Value.agg #[Value.string (b.Name), Vi (b.Cost), ad, ae, af, al, am]] w fun e w' => ∃ v, e = .returned v ∧ ((fun (cB : Bool) => ∃ (be : PHeap) , PHeap.le s be ∧ St w0 be (H) w' ∧ v = Value.bool (cB)) r) := by
 unfold ref18_SameOp_p at hm
 refine calls_of_W Try.func50 rfl rfl (Zc (Zd (Za rfl rfl (Exec.box (cs := [Value.string (a.Name), Vi (a.Cost), aa, ab, ac, aj, ak]) hS rfl rfl rfl ?_))))
 intro l dU bG
 refine Za rfl rfl (Exec.box (cs := [Value.string (b.Name), Vi (b.Cost), ad, ae, af, al, am]) bG rfl rfl rfl ?_)
 intro m dV aE
 refine Za rfl rfl (Zo (v := Value.bool (false)) rfl rfl (Zb (Ze (Zc (Zc ?_)))))
 obtain ⟨ax, x, hm⟩ := Zg hm
 refine W_mid (M := fun f' w' => (fun (ax : Bool) => ∃ (bf : PHeap) , PHeap.le s bf ∧ St w0 bf (Res.box l 51 [Value.string (a.Name), Vi (a.Cost), aa, ab, ac, aj, ak] :: Res.box m 51 [Value.string (b.Name), Vi (b.Cost), ad, ae, af, al, am] :: H) w' ∧ f' 2 = Value.pointer (some ⟨l, 0, none⟩) ∧ f' 3 = Value.pointer (some ⟨m, 0, none⟩) ∧ f' 30 = Value.bool (ax)) ax) ?_ ?_
 ·refine Zd (Za rfl rfl (Zp F51_2 rfl rfl rfl (Za rfl rfl (Exec.load_box_agg (ds := [aa, ab, ac]) ((aE).f1) A47 rfl rfl rfl (Za rfl rfl (Zp F51_2 rfl rfl rfl (Za rfl rfl (Exec.load_box_agg (ds := [ad, ae, af]) (aE) A47 rfl rfl rfl ?_))))))))
  obtain ⟨cC, ci, x⟩ := Zg x
  refine Za rfl rfl (Tc rfl rfl rfl (Zi rfl (Zi rfl args_nil)) (ref18_SameCond_sim ci aE bq br bs bt bu bv).r ?_)
  rintro _ dW ⟨aJ, ar, aq, rfl⟩
  refine Za rfl rfl (Exec.not rfl rfl (Za rfl rfl (Zm (v := Value.bool (!cC)) rfl rfl ?_)))
  rcases ite_some x with ⟨n, x⟩ | ⟨n, x⟩
  ·refine WL_passes 17 (by rw [n]; rfl) ?_
   refine Zb (Ze ?_)
   have cP := Zu x
   subst ax
   exact ⟨aJ, ar, (aq).f1, rfl, rfl, rfl⟩
  replace n := Zk n
  refine WL_run rfl (Zf rfl (Zx n)) rfl (Zp F51_3 rfl rfl rfl (WL_run rfl (Zf rfl (Zx n)) rfl (Zn ((aq).f1) A48 rfl rfl rfl (WL_run rfl (Zf rfl (Zx n)) rfl (Zr S48 rfl rfl (az.mono ar) (WL_run rfl (Zf rfl (Zx n)) rfl (Zp F51_3 rfl rfl rfl (WL_run rfl (Zf rfl (Zx n)) rfl (Zn (aq) A48 rfl rfl rfl (WL_run rfl (Zf rfl (Zx n)) rfl (Zr S48 rfl rfl (a8.mono ar) (WL_run rfl (Zf rfl (Zx n)) rfl (Exec.neq rfl rfl rfl ?_)))))))))))))
  refine WL_passes 2 (by rw [n]; rfl) ?_
  rcases ite_some x with ⟨o, x⟩ | ⟨o, x⟩
  ·refine WL_passes 8 (by rw [o]; rfl) ?_
   refine Zb (Ze ?_)
   have cQ := Zu x
   subst ax
   exact ⟨aJ, ar, (aq).f1, rfl, rfl, rfl⟩
  replace o := Zk o
  refine WL_run rfl (Zf rfl (Zx o)) rfl (Zp F51_4 rfl rfl rfl (WL_run rfl (Zf rfl (Zx o)) rfl (Zn ((aq).f1) A49 rfl rfl rfl (WL_run rfl (Zf rfl (Zx o)) rfl (Zr S49 rfl rfl (a7.mono ar) (WL_run rfl (Zf rfl (Zx o)) rfl (Zp F51_4 rfl rfl rfl (WL_run rfl (Zf rfl (Zx o)) rfl (Zn (aq) A49 rfl rfl rfl (WL_run rfl (Zf rfl (Zx o)) rfl (Zr S49 rfl rfl (aB.mono ar) (WL_run rfl (Zf rfl (Zx o)) rfl (Exec.neq rfl rfl rfl (Za rfl rfl (Exec.pick_f (v := Value.bool (!decide ((a.Assigns.length : Int) = (b.Assigns.length : Int)))) rfl (Zx o) rfl (Zb (Ze ?_)))))))))))))))))
  have cR := Zu x
  subst ax
  exact ⟨aJ, ar, (aq).f1, rfl, rfl, rfl⟩
 intro dt dX bB
 obtain ⟨a9, i, aO, bY, bZ, aZ⟩ := bB
 refine (Ze ?_)
 rcases ite_some hm with ⟨a0, hm⟩ | ⟨a0, hm⟩
 ·refine W_cond_t aZ a0 (Zc (Zd (Za rfl rfl (Zo (v := Value.bool (false)) rfl rfl (Zb (Ze (W_ret (at_ret ?_))))))))
  have cS := Zu hm
  subst r
  refine ⟨_, ret1 rfl, ?_⟩
  exact ⟨a9, i, ((aO).drop).drop, rfl⟩
 refine W_cond_f aZ a0 ?_
 replace a0 := Zk a0
 refine W_skip (Ze (Zc (Zc (Zd (Za rfl rfl (Zo (v := Vi (0)) rfl rfl (Zb (Ze ?_))))))))
 obtain ⟨aM, b7, bT, bP, bN⟩ := ctl_some hm
 refine W_mid (M := fun f' w' => ∃ s', (aM = .next s' ∨ aM = .brk s') ∧ (fun (aV : Int) => ∃ (bg : PHeap) , PHeap.le a9 bg ∧ St w0 bg (Res.box l 51 [Value.string (a.Name), Vi (a.Cost), aa, ab, ac, aj, ak] :: Res.box m 51 [Value.string (b.Name), Vi (b.Cost), ad, ae, af, al, am] :: H) w' ∧ f' 2 = Value.pointer (some ⟨l, 0, none⟩) ∧ f' 3 = Value.pointer (some ⟨m, 0, none⟩) ∧ f' 5 = Vi (aV)) s') ?_ ?_
 ·refine W_block (W_while (fun s' f' w' => (fun (p : Int) => ∃ (bh : PHeap) , PHeap.le a9 bh ∧ St w0 bh (Res.box l 51 [Value.string (a.Name), Vi (a.Cost), aa, ab, ac, aj, ak] :: Res.box m 51 [Value.string (b.Name), Vi (b.Cost), ad, ae, af, al, am] :: H) w' ∧ f' 2 = Value.pointer (some ⟨l, 0, none⟩) ∧ f' 3 = Value.pointer (some ⟨m, 0, none⟩) ∧ f' 5 = Vi (p)) s') b7 ?_ ?_)
  ·have bH := (aO).f1
   exact ⟨a9, (Zv _), (bH).f1, bY, bZ, rfl⟩
  intro p aC du dY b9 t aT
  obtain ⟨aA, ai, aF, ao, av, z⟩ := b9
  refine Zc (Zc (Zd (Za rfl rfl (Zm (v := Vi (p)) rfl z (Za rfl rfl (Zp F51_3 rfl ao rfl (Za rfl rfl (Zn (aF) A48 rfl rfl rfl (Za rfl rfl (Zr S48 rfl rfl (az.mono (Zt i ai)) (Za rfl rfl (Zq rfl rfl rfl (Zb (Ze ?_))))))))))))))
  rcases ite_some t with ⟨a1, t⟩ | ⟨a1, t⟩
  ·refine W_cond_t rfl a1 (W_skip (Ze (Zc (W_block (Zc ?_)))))
   obtain ⟨ay, k, t⟩ := Zg t
   refine W_mid (M := fun f' w' => (fun (ay : Bool) => ∃ (bi : PHeap) , PHeap.le aA bi ∧ St w0 bi (Res.box l 51 [Value.string (a.Name), Vi (a.Cost), aa, ab, ac, aj, ak] :: Res.box m 51 [Value.string (b.Name), Vi (b.Cost), ad, ae, af, al, am] :: H) w' ∧ f' 2 = Value.pointer (some ⟨l, 0, none⟩) ∧ f' 3 = Value.pointer (some ⟨m, 0, none⟩) ∧ f' 5 = Vi (p) ∧ f' 81 = Value.bool (ay)) ay) ?_ ?_
   ·refine W_dl (n0 := 44) (qs 0 41 (.e 41 [] (.q 42 (.q 43 .done)))) hmix (by kernel_rfl) (by kernel_rfl) ?_
    have j := aF.drew
    refine DL_q rfl rfl (Zp F51_3 rfl ao rfl ⟨rfl, ?_⟩)
    refine DL_q rfl rfl (Zn (j) A48 rfl rfl rfl ⟨rfl, ?_⟩)
    refine DL_q rfl rfl (Zm (v := Vi (p)) rfl z ⟨rfl, ?_⟩)
    obtain ⟨bo, aH, k⟩ := Zg k
    refine DL_q rfl rfl (Exec.index_repE S48 rfl rfl rfl (az.mono (Zt i ai)) aH ?_)
    intro cF d0 bw cT
    refine ⟨rfl, ?_⟩
    refine DL_q rfl rfl (Zp F58_1 rfl rfl rfl ⟨rfl, ?_⟩)
    refine DL_q rfl rfl (Zw (E := (encInt .i64)) j A3 rfl rfl rfl (bw.sub (Sub.iso (Sub.snd (Sub.fst (Sub.refl _)) rfl)) rfl) ?_)
    intro dM cj
    obtain rfl := encInt_val.1 cj
    refine ⟨rfl, ?_⟩
    refine DL_q rfl rfl (Zp F51_3 rfl av rfl ⟨rfl, ?_⟩)
    refine DL_q rfl rfl (Zn ((j).f1) A48 rfl rfl rfl ⟨rfl, ?_⟩)
    refine DL_q rfl rfl (Zm (v := Vi (p)) rfl z ⟨rfl, ?_⟩)
    obtain ⟨bp, aI, k⟩ := Zg k
    refine DL_q rfl rfl (Exec.index_repE S48 rfl rfl rfl (a8.mono (Zt i ai)) aI ?_)
    intro cG d1 bx cU
    refine ⟨rfl, ?_⟩
    refine DL_q rfl rfl (Zp F58_1 rfl rfl rfl ⟨rfl, ?_⟩)
    refine DL_q rfl rfl (Zw (E := (encInt .i64)) j A3 rfl rfl rfl (bx.sub (Sub.iso (Sub.snd (Sub.fst (Sub.refl _)) rfl)) rfl) ?_)
    intro dN ck
    obtain rfl := encInt_val.1 ck
    refine ⟨rfl, ?_⟩
    refine DL_q rfl rfl (Exec.neq rfl rfl rfl ⟨rfl, ?_⟩)
    refine DL_q rfl rfl (Zm (v := Value.bool (!decide (bo.Atom = bp.Atom))) rfl rfl ⟨rfl, ?_⟩)
    rcases ite_some k with ⟨g, k⟩ | ⟨g, k⟩
    ·refine DL_passes 30 (by rw [g]; rfl) ?_
     refine DL_done (Zb (Ze ?_))
     have cV := Zu k
     subst ay
     exact ⟨aA, (Zv _), ((j).f1).f1, ao, av, z, rfl⟩
    replace g := Zk g
    refine DL_qg rfl rfl (Zf rfl (Zx g)) (Zp F51_3 rfl ao rfl ⟨rfl, ?_⟩)
    refine DL_qg rfl rfl (Zf rfl (Zx g)) (Zn (j) A48 rfl rfl rfl ⟨rfl, ?_⟩)
    refine DL_qg rfl rfl (Zf rfl (Zx g)) (Zm (v := Vi (p)) rfl z ⟨rfl, ?_⟩)
    refine DL_qg rfl rfl (Zf rfl (Zx g)) (Exec.index_repE S48 rfl rfl rfl (az.mono (Zt i ai)) aH ?_)
    intro cH d2 bz cW
    refine ⟨rfl, ?_⟩
    refine DL_qg rfl rfl (Zf rfl (Zx g)) (Zp F58_2 rfl rfl rfl ⟨rfl, ?_⟩)
    refine DL_qg rfl rfl (Zf rfl (Zx g)) (Zw (E := encBool) j A4 rfl rfl rfl (bz.sub (Sub.iso (Sub.snd (Sub.snd (Sub.refl _) rfl) rfl)) rfl) ?_)
    intro c7 cl
    obtain rfl : c7 = Value.bool (bo.Add) := encBool_val.1 cl
    refine ⟨rfl, ?_⟩
    refine DL_qg rfl rfl (Zf rfl (Zx g)) (Zp F51_3 rfl av rfl ⟨rfl, ?_⟩)
    refine DL_qg rfl rfl (Zf rfl (Zx g)) (Zn ((j).f1) A48 rfl rfl rfl ⟨rfl, ?_⟩)
    refine DL_qg rfl rfl (Zf rfl (Zx g)) (Zm (v := Vi (p)) rfl z ⟨rfl, ?_⟩)
    refine DL_qg rfl rfl (Zf rfl (Zx g)) (Exec.index_repE S48 rfl rfl rfl (a8.mono (Zt i ai)) aI ?_)
    intro cI d3 b0 cX
    refine ⟨rfl, ?_⟩
    refine DL_qg rfl rfl (Zf rfl (Zx g)) (Zp F58_2 rfl rfl rfl ⟨rfl, ?_⟩)
    refine DL_qg rfl rfl (Zf rfl (Zx g)) (Zw (E := encBool) j A4 rfl rfl rfl (b0.sub (Sub.iso (Sub.snd (Sub.snd (Sub.refl _) rfl) rfl)) rfl) ?_)
    intro c8 cm
    obtain rfl : c8 = Value.bool (bp.Add) := encBool_val.1 cm
    refine ⟨rfl, ?_⟩
    refine DL_qg rfl rfl (Zf rfl (Zx g)) (Exec.bool_neq Try.underlying4 rfl rfl rfl ⟨rfl, ?_⟩)
    refine DL_passes 2 (by rw [g]; rfl) ?_
    rcases ite_some k with ⟨c, k⟩ | ⟨c, k⟩
    ·refine DL_passes 15 (by rw [c]; rfl) ?_
     refine DL_done (Zb (Ze ?_))
     have cY := Zu k
     subst ay
     exact ⟨aA, (Zv _), ((j).f1).f1, ao, av, z, rfl⟩
    replace c := Zk c
    refine DL_qg rfl rfl (Zf rfl (Zx c)) (Zp F51_3 rfl ao rfl ⟨rfl, ?_⟩)
    refine DL_qg rfl rfl (Zf rfl (Zx c)) (Zn (j) A48 rfl rfl rfl ⟨rfl, ?_⟩)
    refine DL_qg rfl rfl (Zf rfl (Zx c)) (Zm (v := Vi (p)) rfl z ⟨rfl, ?_⟩)
    refine DL_qg rfl rfl (Zf rfl (Zx c)) (Exec.index_repE S48 rfl rfl rfl (az.mono (Zt i ai)) aH ?_)
    intro cJ d4 b1 cZ
    refine ⟨rfl, ?_⟩
    refine DL_qg rfl rfl (Zf rfl (Zx c)) (Zp F58_0 rfl rfl rfl ⟨rfl, ?_⟩)
    refine DL_qg rfl rfl (Zf rfl (Zx c)) (Zw (E := encCond) j A47 rfl rfl rfl (b1.sub (Sub.iso (Sub.fst (Sub.refl _))) rfl) ?_)
    intro dO cn
    obtain ⟨dE, dF, dG, rfl, cw, cx, cy⟩ := encCond_val.1 cn
    refine ⟨rfl, ?_⟩
    refine DL_qg rfl rfl (Zf rfl (Zx c)) (Zp F51_3 rfl av rfl ⟨rfl, ?_⟩)
    refine DL_qg rfl rfl (Zf rfl (Zx c)) (Zn ((j).f1) A48 rfl rfl rfl ⟨rfl, ?_⟩)
    refine DL_qg rfl rfl (Zf rfl (Zx c)) (Zm (v := Vi (p)) rfl z ⟨rfl, ?_⟩)
    refine DL_qg rfl rfl (Zf rfl (Zx c)) (Exec.index_repE S48 rfl rfl rfl (a8.mono (Zt i ai)) aI ?_)
    intro cK d5 b2 da
    refine ⟨rfl, ?_⟩
    refine DL_qg rfl rfl (Zf rfl (Zx c)) (Zp F58_0 rfl rfl rfl ⟨rfl, ?_⟩)
    refine DL_qg rfl rfl (Zf rfl (Zx c)) (Zw (E := encCond) j A47 rfl rfl rfl (b2.sub (Sub.iso (Sub.fst (Sub.refl _))) rfl) ?_)
    intro dP co
    obtain ⟨dH, dI, dJ, rfl, cz, c0, c1⟩ := encCond_val.1 co
    refine ⟨rfl, ?_⟩
    obtain ⟨cD, cp, k⟩ := Zg k
    refine DL_eg rfl rfl (Zf rfl (Zx c)) (Tc rfl rfl rfl (Zi rfl (Zi rfl args_nil)) (ref18_SameCond_sim cp j cw cx cy cz c0 c1).r ?_)
    rintro _ dZ ⟨c4, bV, bI, rfl⟩
    refine ⟨ag_nil, ?_⟩
    refine DL_qg rfl rfl (Zf rfl (Zx c)) (Exec.not rfl rfl ⟨rfl, ?_⟩)
    refine DL_q rfl rfl (Exec.pick_f (v := Value.bool (!cD)) rfl (Zx c) rfl ⟨rfl, ?_⟩)
    refine DL_done (Zb (Ze ?_))
    have db := Zu k
    subst ay
    exact ⟨c4, bV, ((bI).f1).f1, ao, av, z, rfl⟩
   intro dv ea bC
   obtain ⟨bj, aX, aP, ca, cb, cc, ba⟩ := bC
   refine (Ze ?_)
   rcases ite_some t with ⟨a2, t⟩ | ⟨a2, t⟩
   ·refine W_cond_t ba a2 (Zc (Zd (Za rfl rfl (Zo (v := Value.bool (false)) rfl rfl (Zb (Ze (W_ret (ib_ret (at_ret (at_ret (ib_ret (at_ret (at_ret ?_)))))))))))))
    have dc := Zu t
    subst aC
    have bR := bT _ (aT (by intro _ h; cases h))
    have dd := Zu bR
    subst r
    refine ⟨_, ret1 rfl, ?_⟩
    exact ⟨bj, (Zt (Zt i ai) aX), ((aP).drop).drop, rfl⟩
   refine W_cond_f ba a2 ?_
   replace a2 := Zk a2
   refine W_skip (ib_normal (Ze (Zd (Za rfl rfl (Zm (v := Vi (p)) rfl cc (Za rfl rfl (Exec.add rfl rfl rfl (Za rfl rfl (Zo (v := Vi (IntKind.i64.wrap (p + 1))) rfl rfl (Zb (Ze ?_)))))))))))
   have de := Zu t
   subst aC
   refine ⟨_, rfl, ?_⟩; exact ⟨bj, (Zt ai aX), ((aP).f1).f1, ca, cb, rfl⟩
  refine W_cond_f rfl a1 ?_
  replace a1 := Zk a1
  refine W_exit (at_exit (at_exit (ib_here (Ze ?_))))
  have df := Zu t
  subst aC
  refine ⟨_, .inr (aT (by intro _ h; cases h)), ?_⟩; exact ⟨aA, ai, ((aF).f1).f1, ao, av, z⟩
 rintro dw eb ⟨aV, aR, bD⟩
 have hm := aR.elim (bP _) (bN _)
 clear aR
 obtain ⟨aK, au, bJ, cd, ce, dA⟩ := bD
 refine (Ze (Zc (Zc (Zd (Za rfl rfl (Zo (v := Vi (0)) rfl rfl (Zb (Ze ?_))))))))
 obtain ⟨aN, b8, bU, bQ, bO⟩ := ctl_some hm
 refine W_mid (M := fun f' w' => ∃ s', (aN = .next s' ∨ aN = .brk s') ∧ (fun (aW : Int) => ∃ (bk : PHeap) , PHeap.le aK bk ∧ St w0 bk (Res.box l 51 [Value.string (a.Name), Vi (a.Cost), aa, ab, ac, aj, ak] :: Res.box m 51 [Value.string (b.Name), Vi (b.Cost), ad, ae, af, al, am] :: H) w' ∧ f' 2 = Value.pointer (some ⟨l, 0, none⟩) ∧ f' 3 = Value.pointer (some ⟨m, 0, none⟩) ∧ f' 6 = Vi (aW)) s') ?_ ?_
 ·refine W_block (W_while (fun s' f' w' => (fun (ah : Int) => ∃ (bl : PHeap) , PHeap.le aK bl ∧ St w0 bl (Res.box l 51 [Value.string (a.Name), Vi (a.Cost), aa, ab, ac, aj, ak] :: Res.box m 51 [Value.string (b.Name), Vi (b.Cost), ad, ae, af, al, am] :: H) w' ∧ f' 2 = Value.pointer (some ⟨l, 0, none⟩) ∧ f' 3 = Value.pointer (some ⟨m, 0, none⟩) ∧ f' 6 = Vi (ah)) s') b8 ?_ ?_)
  ·have bK := (bJ).f1
   exact ⟨aK, (Zv _), (bK).f1, cd, ce, rfl⟩
  intro ah aD dx ec bA u aU
  obtain ⟨aL, an, aG, aw, a5, ap⟩ := bA
  refine Zc (Zc (Zd (Za rfl rfl (Zm (v := Vi (ah)) rfl ap (Za rfl rfl (Zp F51_4 rfl aw rfl (Za rfl rfl (Zn (aG) A49 rfl rfl rfl (Za rfl rfl (Zr S49 rfl rfl (a7.mono (Zt (Zt i au) an)) (Za rfl rfl (Zq rfl rfl rfl (Zb (Ze ?_))))))))))))))
  rcases ite_some u with ⟨a3, u⟩ | ⟨a3, u⟩
  ·refine W_cond_t rfl a3 (W_skip (Ze (Zc (W_block (Zc ?_)))))
   obtain ⟨a6, y, u⟩ := Zg u
   refine W_mid (M := fun f' w' => (fun (a6 : Bool) => ∃ (bm : PHeap) , PHeap.le aL bm ∧ St w0 bm (Res.box l 51 [Value.string (a.Name), Vi (a.Cost), aa, ab, ac, aj, ak] :: Res.box m 51 [Value.string (b.Name), Vi (b.Cost), ad, ae, af, al, am] :: H) w' ∧ f' 2 = Value.pointer (some ⟨l, 0, none⟩) ∧ f' 3 = Value.pointer (some ⟨m, 0, none⟩) ∧ f' 6 = Vi (ah) ∧ f' 117 = Value.bool (a6)) a6) ?_ ?_
   ·refine W_dl (n0 := 29) (qs 0 26 (.e 26 [] (.q 27 (.q 28 .done)))) hmix (by kernel_rfl) (by kernel_rfl) ?_
    have ag := aG.drew
    refine DL_q rfl rfl (Zp F51_4 rfl aw rfl ⟨rfl, ?_⟩)
    refine DL_q rfl rfl (Zn (ag) A49 rfl rfl rfl ⟨rfl, ?_⟩)
    refine DL_q rfl rfl (Zm (v := Vi (ah)) rfl ap ⟨rfl, ?_⟩)
    obtain ⟨c9, bc, y⟩ := Zg y
    refine DL_q rfl rfl (Exec.index_repE S49 rfl rfl rfl (a7.mono (Zt (Zt i au) an)) bc ?_)
    intro cL d6 b3 dg
    refine ⟨rfl, ?_⟩
    refine DL_q rfl rfl (Zp F84_0 rfl rfl rfl ⟨rfl, ?_⟩)
    refine DL_q rfl rfl (Zw (E := (encInt .i64)) ag A3 rfl rfl rfl (b3.sub (Sub.iso (Sub.fst (Sub.refl _))) rfl) ?_)
    intro dQ cq
    obtain rfl := encInt_val.1 cq
    refine ⟨rfl, ?_⟩
    refine DL_q rfl rfl (Zp F51_4 rfl a5 rfl ⟨rfl, ?_⟩)
    refine DL_q rfl rfl (Zn ((ag).f1) A49 rfl rfl rfl ⟨rfl, ?_⟩)
    refine DL_q rfl rfl (Zm (v := Vi (ah)) rfl ap ⟨rfl, ?_⟩)
    obtain ⟨cA, bd, y⟩ := Zg y
    refine DL_q rfl rfl (Exec.index_repE S49 rfl rfl rfl (aB.mono (Zt (Zt i au) an)) bd ?_)
    intro cM d7 b4 dh
    refine ⟨rfl, ?_⟩
    refine DL_q rfl rfl (Zp F84_0 rfl rfl rfl ⟨rfl, ?_⟩)
    refine DL_q rfl rfl (Zw (E := (encInt .i64)) ag A3 rfl rfl rfl (b4.sub (Sub.iso (Sub.fst (Sub.refl _))) rfl) ?_)
    intro dR cr
    obtain rfl := encInt_val.1 cr
    refine ⟨rfl, ?_⟩
    refine DL_q rfl rfl (Exec.neq rfl rfl rfl ⟨rfl, ?_⟩)
    refine DL_q rfl rfl (Zm (v := Value.bool (!decide (c9.Fluent = cA.Fluent))) rfl rfl ⟨rfl, ?_⟩)
    rcases ite_some y with ⟨d, y⟩ | ⟨d, y⟩
    ·refine DL_passes 15 (by rw [d]; rfl) ?_
     refine DL_done (Zb (Ze ?_))
     have di := Zu y
     subst a6
     exact ⟨aL, (Zv _), ((ag).f1).f1, aw, a5, ap, rfl⟩
    replace d := Zk d
    refine DL_qg rfl rfl (Zf rfl (Zx d)) (Zp F51_4 rfl aw rfl ⟨rfl, ?_⟩)
    refine DL_qg rfl rfl (Zf rfl (Zx d)) (Zn (ag) A49 rfl rfl rfl ⟨rfl, ?_⟩)
    refine DL_qg rfl rfl (Zf rfl (Zx d)) (Zm (v := Vi (ah)) rfl ap ⟨rfl, ?_⟩)
    refine DL_qg rfl rfl (Zf rfl (Zx d)) (Exec.index_repE S49 rfl rfl rfl (a7.mono (Zt (Zt i au) an)) bc ?_)
    intro cN d8 b5 dj
    refine ⟨rfl, ?_⟩
    refine DL_qg rfl rfl (Zf rfl (Zx d)) (Zp F84_1 rfl rfl rfl ⟨rfl, ?_⟩)
    refine DL_qg rfl rfl (Zf rfl (Zx d)) (Zw (E := encGExpr) ag A82 rfl rfl rfl (b5.sub (Sub.iso (Sub.snd (Sub.refl _) rfl)) rfl) ?_)
    intro dS ct
    obtain ⟨dK, rfl, c2⟩ := encGExpr_val.1 ct
    refine ⟨rfl, ?_⟩
    refine DL_qg rfl rfl (Zf rfl (Zx d)) (Zp F51_4 rfl a5 rfl ⟨rfl, ?_⟩)
    refine DL_qg rfl rfl (Zf rfl (Zx d)) (Zn ((ag).f1) A49 rfl rfl rfl ⟨rfl, ?_⟩)
    refine DL_qg rfl rfl (Zf rfl (Zx d)) (Zm (v := Vi (ah)) rfl ap ⟨rfl, ?_⟩)
    refine DL_qg rfl rfl (Zf rfl (Zx d)) (Exec.index_repE S49 rfl rfl rfl (aB.mono (Zt (Zt i au) an)) bd ?_)
    intro cO d9 b6 dk
    refine ⟨rfl, ?_⟩
    refine DL_qg rfl rfl (Zf rfl (Zx d)) (Zp F84_1 rfl rfl rfl ⟨rfl, ?_⟩)
    refine DL_qg rfl rfl (Zf rfl (Zx d)) (Zw (E := encGExpr) ag A82 rfl rfl rfl (b6.sub (Sub.iso (Sub.snd (Sub.refl _) rfl)) rfl) ?_)
    intro dT cu
    obtain ⟨dL, rfl, c3⟩ := encGExpr_val.1 cu
    refine ⟨rfl, ?_⟩
    obtain ⟨cE, cv, y⟩ := Zg y
    refine DL_eg rfl rfl (Zf rfl (Zx d)) (Tc rfl rfl rfl (Zi rfl (Zi rfl args_nil)) (ref18_sameExpr_sim cv ag c2 c3).r ?_)
    rintro _ ed ⟨c5, bW, bL, rfl⟩
    refine ⟨ag_nil, ?_⟩
    refine DL_qg rfl rfl (Zf rfl (Zx d)) (Exec.not rfl rfl ⟨rfl, ?_⟩)
    refine DL_q rfl rfl (Exec.pick_f (v := Value.bool (!cE)) rfl (Zx d) rfl ⟨rfl, ?_⟩)
    refine DL_done (Zb (Ze ?_))
    have dl := Zu y
    subst a6
    exact ⟨c5, bW, ((bL).f1).f1, aw, a5, ap, rfl⟩
   intro dy ee bE
   obtain ⟨bn, aY, aQ, cf, cg, ch, bb⟩ := bE
   refine (Ze ?_)
   rcases ite_some u with ⟨a4, u⟩ | ⟨a4, u⟩
   ·refine W_cond_t bb a4 (Zc (Zd (Za rfl rfl (Zo (v := Value.bool (false)) rfl rfl (Zb (Ze (W_ret (ib_ret (at_ret (at_ret (ib_ret (at_ret (at_ret ?_)))))))))))))
    have dm := Zu u
    subst aD
    have bS := bU _ (aU (by intro _ h; cases h))
    have dn := Zu bS
    subst r
    refine ⟨_, ret1 rfl, ?_⟩
    exact ⟨bn, (Zt (Zt (Zt i au) an) aY), ((aQ).drop).drop, rfl⟩
   refine W_cond_f bb a4 ?_
   replace a4 := Zk a4
   refine W_skip (ib_normal (Ze (Zd (Za rfl rfl (Zm (v := Vi (ah)) rfl ch (Za rfl rfl (Exec.add rfl rfl rfl (Za rfl rfl (Zo (v := Vi (IntKind.i64.wrap (ah + 1))) rfl rfl (Zb (Ze ?_)))))))))))
   have dp := Zu u
   subst aD
   refine ⟨_, rfl, ?_⟩; exact ⟨bn, (Zt an aY), ((aQ).f1).f1, cf, cg, rfl⟩
  refine W_cond_f rfl a3 ?_
  replace a3 := Zk a3
  refine W_exit (at_exit (at_exit (ib_here (Ze ?_))))
  have dq := Zu u
  subst aD
  refine ⟨_, .inr (aU (by intro _ h; cases h)), ?_⟩; exact ⟨aL, an, ((aG).f1).f1, aw, a5, ap⟩
 rintro dz ef ⟨aW, aS, bF⟩
 have hm := aS.elim (bQ _) (bO _)
 clear aS
 obtain ⟨c6, bX, bM, dB, dC, dD⟩ := bF
 refine (Ze (Zc (Zd (Za rfl rfl (Zo (v := Value.bool (true)) rfl rfl (Zb (Ze (W_ret ?_))))))))
 have dr := Zu hm
 subst r
 refine ⟨_, ret1 rfl, ?_⟩
 exact ⟨c6, (Zt (Zt i au) bX), ((bM).drop).drop, rfl⟩
theorem F37_2 : tyField Try.prog 37 2 = some 2 := by kernel_rfl
theorem ref19_Map_expr_o_step {fu : Nat} (ih : ∀ {w0 w : World} {s : PHeap} {H : List Res} {d : ref19_Map} {a : GExpr} {j : Value} {k : Value} {g : Value} {m : Value} {r : GExpr} (hm : ref19_Map_expr_o_p fu d a = some r) (hS : St w0 s (Res.arr (encInt .i64) 3 g d.Ops :: H) w) (aq : SliceRep (encInt .i64) s j d.Atoms) (ak : SliceRep (encInt .i64) s k d.Fluents) (al : SliceRep encGExpr s m a.Kids), Calls Try.prog 84 #[Value.agg #[j, k, g], Value.agg #[Value.string (a.Op), Vi (a.N), m]] w fun e w' => ∃ v, e = .returned v ∧ ((fun (q : GExpr) => ∃ (o : PHeap) (aa : Value), PHeap.le s o ∧ St w0 o (Res.arr (encInt .i64) 3 g d.Ops :: H) w' ∧ v = Value.agg #[Value.string (q.Op), Vi (q.N), aa] ∧ SliceRep encGExpr o aa q.Kids) r)) {w0 w : World} {s : PHeap} {H : List Res} {d : ref19_Map} {a : GExpr} {j : Value} {k : Value} {g : Value} {m : Value} {r : GExpr} (hm : ref19_Map_expr_o_p (fu + 1) d a = some r) (hS : St w0 s (Res.arr (encInt .i64) 3 g d.Ops :: H) w) (aq : SliceRep (encInt .i64) s j d.Atoms) (ak : SliceRep (encInt .i64) s k d.Fluents) (al : SliceRep encGExpr s m a.Kids) :
  Calls Try.prog 84 #[Value.agg #[j, k, g], Value.agg #[Value.string (a.Op), Vi (a.N), m]] w fun e w' => ∃ v, e = .returned v ∧ ((fun (q : GExpr) => ∃ (o : PHeap) (aa : Value), PHeap.le s o ∧ St w0 o (Res.arr (encInt .i64) 3 g d.Ops :: H) w' ∧ v = Value.agg #[Value.string (q.Op), Vi (q.N), aa] ∧ SliceRep encGExpr o aa q.Kids) r) := by
 rw [ref19_Map_expr_o_p] at hm
 refine calls_of_W Try.func84 rfl rfl (Zc (Zd (Za rfl rfl (Exec.box (cs := [j, k, g]) hS rfl rfl rfl ?_))))
 intro ac b0 aC
 refine Za rfl rfl (Exec.box (cs := [Value.string (a.Op), Vi (a.N), m]) aC rfl rfl rfl ?_)
 intro ad b1 aD
 refine Za rfl rfl (Exec.alloc (cs := [Value.string (⟨#[]⟩), Vi (0), Value.slice none 0 0]) aD Z82 rfl rfl ?_)
 intro ae b2 l
 refine Zb (Ze (Zc (Zc (Zd (Za rfl rfl (Zp F82_0 rfl rfl rfl (Za rfl rfl (Zn ((l).f1) A9 rfl rfl rfl (Za rfl rfl (Exec.str_eql rfl rfl rfl (Zb (Ze ?_))))))))))))
 rcases ite_some hm with ⟨y, hm⟩ | ⟨y, hm⟩
 ·refine W_cond_t rfl y (Zc (Zd (Za rfl rfl (Zp F37_1 rfl rfl rfl (Za rfl rfl (Zn ((l).f2) A24 rfl rfl rfl (Za rfl rfl (Zp F82_1 rfl rfl rfl (Za rfl rfl (Zn ((l).f1) A3 rfl rfl rfl ?_))))))))))
  obtain ⟨aj, aQ, hm⟩ := Zg hm
  refine Za rfl rfl (Exec.index_rep S24 rfl rfl rfl ak aQ ?_)
  intro be bq a7
  refine Za rfl rfl (Zw (E := (encInt .i64)) l A3 rfl rfl rfl a7 ?_)
  intro bx aR
  obtain rfl := encInt_val.1 aR
  refine Za rfl rfl (Exec.build rfl (parts_cons (c := [Value.string (⟨#[102, 108, 117, 101, 110, 116]⟩)]) (cells_of rfl rfl) (parts_cons (c := [Vi (aj)]) (cells_of rfl rfl) parts_nil)) (v := Value.agg #[Value.string (⟨#[102, 108, 117, 101, 110, 116]⟩), Vi (aj), Value.slice none 0 0]) (fun _ => by kernel_rfl) (Za rfl rfl (Exec.store_box (ds := [Value.string (⟨#[102, 108, 117, 101, 110, 116]⟩), Vi (aj), Value.slice none 0 0]) (es := [Value.string (⟨#[102, 108, 117, 101, 110, 116]⟩), Vi (aj), Value.slice none 0 0]) l A82 rfl rfl rfl rfl (Zj rfl (Zj rfl (Zj rfl one_nil))) (Nat.le_of_ble_eq_true rfl) rfl ?_)))
  intro b3 av
  refine Zb (Ze (W_ret (at_ret ?_)))
  have bh := Zu hm
  subst r
  refine ⟨_, retG1 rfl ⟨_, _, rfl, cellRes (av) A82⟩, ?_⟩
  exact ⟨s, (Value.slice none 0 0), (Zv _), (((av).drop).drop).drop, rfl, (SliceRep.nil _ _)⟩
 refine W_cond_f rfl y ?_
 replace y := Zk y
 refine W_skip (Ze (Zc (Zd (Za rfl rfl (Zp F82_0 rfl rfl rfl (Za rfl rfl (Zn ((l).f1) A9 rfl rfl rfl (Za rfl rfl (Zp F82_1 rfl rfl rfl (Za rfl rfl (Zn ((l).f1) A3 rfl rfl rfl (Za rfl rfl (Exec.build rfl (parts_cons (c := [Value.string (a.Op)]) (cells_of rfl rfl) (parts_cons (c := [Vi (a.N)]) (cells_of rfl rfl) parts_nil)) (v := Value.agg #[Value.string (a.Op), Vi (a.N), Value.slice none 0 0]) (fun _ => by kernel_rfl) (Za rfl rfl (Exec.alloc (cs := [Value.string (⟨#[]⟩), Vi (0), Value.slice none 0 0]) l Z82 rfl rfl ?_)))))))))))))))
 intro af b4 aE
 refine Za rfl rfl (Exec.store_box (ds := [Value.string (a.Op), Vi (a.N), Value.slice none 0 0]) (es := [Value.string (a.Op), Vi (a.N), Value.slice none 0 0]) aE A82 rfl rfl rfl rfl (Zj rfl (Zj rfl (Zj rfl one_nil))) (Nat.le_of_ble_eq_true rfl) rfl ?_)
 intro b5 aF
 refine Zb (Ze (Zc (Zc (Zd (Za rfl rfl (Zo (v := Vi (0)) rfl rfl (Zb (Ze ?_))))))))
 obtain ⟨ar, a9, bo, aK, aJ⟩ := ctl_some hm
 refine W_mid (M := fun f' w' => ∃ s', (ar = .next s' ∨ ar = .brk s') ∧ (un2 fun (a0 : Int) (a5 : (List GExpr)) => ∃ (a3 : PHeap) (p : Value), PHeap.le s a3 ∧ St w0 a3 (Res.arr (encInt .i64) 3 g d.Ops :: Res.box ac 37 [j, k, g] :: Res.box ad 82 [Value.string (a.Op), Vi (a.N), m] :: Res.box ae 82 [Value.string (⟨#[]⟩), Vi (0), Value.slice none 0 0] :: Res.box af 82 [Value.string (a.Op), Vi (a.N), p] :: Res.arr encGExpr 82 p a5 :: H) w' ∧ f' 2 = Value.pointer (some ⟨ac, 0, none⟩) ∧ f' 3 = Value.pointer (some ⟨ad, 0, none⟩) ∧ f' 4 = Value.pointer (some ⟨ae, 0, none⟩) ∧ f' 5 = Value.pointer (some ⟨af, 0, none⟩) ∧ f' 6 = Vi (a0)) s') ?_ ?_
 ·refine W_block (W_while (fun s' f' w' => (un2 fun (t : Int) (a6 : (List GExpr)) => ∃ (a4 : PHeap) (ai : Value), PHeap.le s a4 ∧ St w0 a4 (Res.arr (encInt .i64) 3 g d.Ops :: Res.box ac 37 [j, k, g] :: Res.box ad 82 [Value.string (a.Op), Vi (a.N), m] :: Res.box ae 82 [Value.string (⟨#[]⟩), Vi (0), Value.slice none 0 0] :: Res.box af 82 [Value.string (a.Op), Vi (a.N), ai] :: Res.arr encGExpr 82 ai a6 :: H) w' ∧ f' 2 = Value.pointer (some ⟨ac, 0, none⟩) ∧ f' 3 = Value.pointer (some ⟨ad, 0, none⟩) ∧ f' 4 = Value.pointer (some ⟨ae, 0, none⟩) ∧ f' 5 = Value.pointer (some ⟨af, 0, none⟩) ∧ f' 6 = Vi (t)) s') a9 ?_ ?_)
  ·have aG := aF.nilArr encGExpr 82
   exact ⟨s, (Value.slice none 0 0), (Zv _), (((((aG).f1).f2).f3).f4).f5, rfl, rfl, rfl, rfl, rfl⟩
  intro bc au bm b6 aA b aL
  obtain ⟨t, a6⟩ := bc
  replace b := un2_eq b
  obtain ⟨aZ, ai, u, n, ao, ag, a1, x, ah⟩ := aA
  refine Zc (Zc (Zd (Za rfl rfl (Zm (v := Vi (t)) rfl ah (Za rfl rfl (Zp F82_2 rfl ag rfl (Za rfl rfl (Zn ((n).f2) A80 rfl rfl rfl (Za rfl rfl (Zr S80 rfl rfl (al.mono u) (Za rfl rfl (Zq rfl rfl rfl (Zb (Ze ?_))))))))))))))
  rcases ite_some b with ⟨z, b⟩ | ⟨z, b⟩
  ·refine W_cond_t rfl z (W_skip (Ze (Zc (W_block (W_dl (n0 := 11) (qs 0 8 (.e 8 [0, 1] (.e 9 [0, 1] (.e 10 [] .done)))) hmix (by kernel_rfl) (by kernel_rfl) (DL_q rfl rfl (Zp F82_2 rfl x rfl ⟨rfl, ?_⟩)))))))
   refine DL_q rfl rfl (Zn ((n.drew).f4) A80 rfl rfl rfl ⟨rfl, ?_⟩)
   refine DL_q rfl rfl (Exec.load_box_agg (ds := [j, k, g]) ((n.drew).f1) A37 rfl ao rfl ⟨rfl, ?_⟩)
   refine DL_q rfl rfl (Zp F82_2 rfl ag rfl ⟨rfl, ?_⟩)
   refine DL_q rfl rfl (Zn ((n.drew).f2) A80 rfl rfl rfl ⟨rfl, ?_⟩)
   refine DL_q rfl rfl (Zm (v := Vi (t)) rfl ah ⟨rfl, ?_⟩)
   obtain ⟨bD, aS, b⟩ := Zg b
   refine DL_q rfl rfl (Exec.index_repE S80 rfl rfl rfl (al.mono u) aS ?_)
   intro bf br a8 bi
   refine ⟨rfl, ?_⟩
   refine DL_q rfl rfl (Zw (E := encGExpr) n.drew A82 rfl rfl rfl a8 ?_)
   intro bz aT
   obtain ⟨bw, rfl, aW⟩ := encGExpr_val.1 aT
   refine ⟨rfl, ?_⟩
   obtain ⟨i, aU, b⟩ := Zg b
   refine DL_e rfl rfl (Tc rfl rfl rfl (Zi rfl (Zi rfl args_nil)) (ih aU n.drew (aq.mono u) (ak.mono u) aW).r ?_)
   rintro _ b7 ⟨ba, ab, aM, aw, rfl, aX⟩
   refine ⟨(ag_cons (ag_r rfl rfl (Zp F82_2 rfl x rfl ⟨rfl, rfl⟩)) (ag_cons (ag_r rfl rfl (Zn ((aw).f4) A80 rfl rfl rfl ⟨rfl, rfl⟩)) ag_nil)), ?_⟩
   refine DL_e rfl rfl (Exec.buildSlice (Te := 82) (cs := [Value.string (i.Op), Vi (i.N), ab]) aw rfl (parts_cons (c := [Value.string (i.Op), Vi (i.N), ab]) (cells_of rfl rfl) parts_nil) (fun _ => by kernel_rfl) ?_)
   intro bg b8 ax
   refine ⟨(ag_cons (ag_r rfl rfl (Zp F82_2 rfl x rfl ⟨rfl, rfl⟩)) (ag_cons (ag_r rfl rfl (Zn ((ax).f5) A80 rfl rfl rfl ⟨rfl, rfl⟩)) ag_nil)), ?_⟩
   obtain ⟨bp, aV, b⟩ := Zg b
   refine DL_e rfl rfl (Exec.append_box (E := encGExpr) (ys := [i]) (ax).f6 S80 Z82 rfl (by decide) rfl rfl rfl rfl ⟨[Value.string (i.Op), Vi (i.N), ab], [], rfl, ((encGExpr_iff _ _ _).2 ⟨[Value.string (i.Op)], [Vi (i.N), ab], rfl, rfl, ⟨[Vi (i.N)], [ab], rfl, rfl, ⟨_, rfl, aX⟩⟩⟩), rfl⟩ rfl aV ?_)
   intro ap b9 am
   refine ⟨ag_nil, ?_⟩
   refine DL_done (Za rfl rfl (Zp F82_2 rfl x rfl (Za rfl rfl (Exec.store_box (ds := [ap]) (es := [Value.string (a.Op), Vi (a.N), ap]) (am).f5 A80 rfl rfl rfl (cells_one (((am).f5).f1).arr_one) (Zj (((am).f5).f1).arr_one one_nil) (Nat.le_of_ble_eq_true rfl) rfl ?_))))
   intro bA aH
   refine Zb (ib_normal (Ze (Zd (Za rfl rfl (Zm (v := Vi (t)) rfl ah (Za rfl rfl (Exec.add rfl rfl rfl (Za rfl rfl (Zo (v := Vi (IntKind.i64.wrap (t + 1))) rfl rfl (Zb (Ze ?_)))))))))))
   have bj := Zu b
   subst au
   refine ⟨_, rfl, ?_⟩; exact ⟨ba, ap, (Zt u aM), ((((((aH).f1).f1).f5).f5).f5).f5, ao, ag, a1, x, rfl⟩
  refine W_cond_f rfl z ?_
  replace z := Zk z
  refine W_exit (at_exit (at_exit (ib_here (Ze ?_))))
  have bk := Zu b
  subst au
  refine ⟨_, .inr (aL (by intro _ h; cases h)), ?_⟩; exact ⟨aZ, ai, u, ((((((n).f5).f5).f5).f5).f5).f5, ao, ag, a1, x, ah⟩
 rintro bn bB ⟨bd, az, aB⟩
 have hm := az.elim (aK _) (aJ _)
 clear az
 obtain ⟨a0, a5⟩ := bd
 replace hm := un2_eq hm
 obtain ⟨bv, p, aN, an, bs, bt, a2, aP, bu⟩ := aB
 refine (Ze (Zc (Zd (Za rfl rfl (Exec.load_box_agg (ds := [Value.string (a.Op), Vi (a.N), p]) ((an).f4) A82 rfl aP rfl (Za rfl rfl (Exec.store_box (ds := [Value.string (a.Op), Vi (a.N), p]) (es := [Value.string (a.Op), Vi (a.N), p]) (an).f3 A82 rfl a2 rfl rfl (Zj rfl (Zj rfl (Zj (((an).f3).f5).arr_one one_nil))) (Nat.le_of_ble_eq_true rfl) rfl ?_)))))))
 intro bC ay
 refine Zb (Ze (W_ret ?_))
 have bl := Zu hm
 subst r
 refine ⟨_, retG1 rfl ⟨_, _, a2, cellRes (ay) A82⟩, ?_⟩
 obtain ⟨bb, aO, aI, aY⟩ := (ay).f5.freezeArr
 exact ⟨bb, p, (Zt aN aO), (((((((aI).drop).f1).drop).f1).drop).f1).drop, rfl, aY⟩
theorem ref19_Map_expr_o_sim {fu : Nat} : ∀ {w0 w : World} {s : PHeap} {H : List Res} {a : ref19_Map} {b : GExpr} {g : Value} {h : Value} {d : Value} {i : Value} {r : GExpr} (hm : ref19_Map_expr_o_p fu a b = some r) (hS : St w0 s (Res.arr (encInt .i64) 3 d a.Ops :: H) w) (k : SliceRep (encInt .i64) s g a.Atoms) (l : SliceRep (encInt .i64) s h a.Fluents) (m : SliceRep encGExpr s i b.Kids), Calls Try.prog 84 #[Value.agg #[g, h, d], Value.agg #[Value.string (b.Op), Vi (b.N), i]] w fun e w' => ∃ v, e = .returned v ∧ ((fun (f : GExpr) => ∃ (c : PHeap) (j : Value), PHeap.le s c ∧ St w0 c (Res.arr (encInt .i64) 3 d a.Ops :: H) w' ∧ v = Value.agg #[Value.string (f.Op), Vi (f.N), j] ∧ SliceRep encGExpr c j f.Kids) r) := by
 induction fu with
 | zero => intros; rename_i hm _ _ _ _; rw [ref19_Map_expr_o_p] at hm; cases hm
 | succ fu ih => exact ref19_Map_expr_o_step ih
theorem ref19_Map_cond_o_sim {w0 w : World} {s : PHeap} {H : List Res} {fu : Nat} {z : ref19_Map} {a8 : Cond} {t : Value} {u : Value} {a : Value} {af : Value} {ag : Value} {ah : Value} {r : Cond} (hm : ref19_Map_cond_o_p fu z a8 = some r) (hS : St w0 s (Res.arr (encInt .i64) 3 a z.Ops :: H) w) (a6 : SliceRep (encInt .i64) s t z.Atoms) (bc : SliceRep (encInt .i64) s u z.Fluents) (bd : SliceRep (encInt .i64) s af a8.Pos) (be : SliceRep (encInt .i64) s ag a8.Neg) (a7 : SliceRep encGTest s ah a8.Tests) :
  Calls Try.prog 41 #[Value.agg #[t, u, a], Value.agg #[af, ag, ah]] w fun e w' => ∃ v, e = .returned v ∧ ((fun (bb : Cond) => ∃ (a5 : PHeap) (bA : Value) (bB : Value) (bC : Value), PHeap.le s a5 ∧ St w0 a5 (Res.arr (encInt .i64) 3 a z.Ops :: H) w' ∧ v = Value.agg #[bA, bB, bC] ∧ SliceRep (encInt .i64) a5 bA bb.Pos ∧ SliceRep (encInt .i64) a5 bB bb.Neg ∧ SliceRep encGTest a5 bC bb.Tests) r) := by
 unfold ref19_Map_cond_o_p at hm
 refine calls_of_W Try.func41 rfl rfl (Zc (Zd (Za rfl rfl (Exec.box (cs := [t, u, a]) hS rfl rfl rfl ?_))))
 intro l ed bY
 refine Za rfl rfl (Exec.box (cs := [af, ag, ah]) bY rfl rfl rfl ?_)
 intro m ee bZ
 refine Za rfl rfl (Exec.alloc (cs := [Value.slice none 0 0, Value.slice none 0 0, Value.slice none 0 0]) bZ Z47 rfl rfl ?_)
 intro n ef ca
 refine Zb (Ze (Zc (Zd (Za rfl rfl (Exec.alloc (cs := [Value.slice none 0 0, Value.slice none 0 0, Value.slice none 0 0]) ca Z47 rfl rfl ?_)))))
 intro o eg cb
 refine Zb (Ze (Zc (Zc (Zd (Za rfl rfl (Zo (v := Vi (0)) rfl rfl (Zb (Ze ?_))))))))
 obtain ⟨bf, bP, d9, cq, cn⟩ := ctl_some hm
 refine W_mid (M := fun f' w' => ∃ s', (bf = .next s' ∨ bf = .brk s') ∧ (un2 fun (bt : Int) (av : (List Int)) => ∃ (b2 : PHeap) (g : Value), PHeap.le s b2 ∧ St w0 b2 (Res.arr (encInt .i64) 3 a z.Ops :: Res.box l 37 [t, u, a] :: Res.box m 47 [af, ag, ah] :: Res.box n 47 [Value.slice none 0 0, Value.slice none 0 0, Value.slice none 0 0] :: Res.box o 47 [g, Value.slice none 0 0, Value.slice none 0 0] :: Res.arr (encInt .i64) 3 g av :: H) w' ∧ f' 2 = Value.pointer (some ⟨l, 0, none⟩) ∧ f' 3 = Value.pointer (some ⟨m, 0, none⟩) ∧ f' 4 = Value.pointer (some ⟨n, 0, none⟩) ∧ f' 5 = Value.pointer (some ⟨o, 0, none⟩) ∧ f' 6 = Vi (bt)) s') ?_ ?_
 ·refine W_block (W_while (fun s' f' w' => (un2 fun (ar : Int) (bD : (List Int)) => ∃ (b3 : PHeap) (aE : Value), PHeap.le s b3 ∧ St w0 b3 (Res.arr (encInt .i64) 3 a z.Ops :: Res.box l 37 [t, u, a] :: Res.box m 47 [af, ag, ah] :: Res.box n 47 [Value.slice none 0 0, Value.slice none 0 0, Value.slice none 0 0] :: Res.box o 47 [aE, Value.slice none 0 0, Value.slice none 0 0] :: Res.arr (encInt .i64) 3 aE bD :: H) w' ∧ f' 2 = Value.pointer (some ⟨l, 0, none⟩) ∧ f' 3 = Value.pointer (some ⟨m, 0, none⟩) ∧ f' 4 = Value.pointer (some ⟨n, 0, none⟩) ∧ f' 5 = Value.pointer (some ⟨o, 0, none⟩) ∧ f' 6 = Vi (ar)) s') bP ?_ ?_)
  ·have cc := cb.nilArr (encInt .i64) 3
   exact ⟨s, (Value.slice none 0 0), (Zv _), (((((cc).f1).f2).f3).f4).f5, rfl, rfl, rfl, rfl, rfl⟩
  intro cY bg d3 eh bS j cu
  obtain ⟨ar, bD⟩ := cY
  replace j := un2_eq j
  obtain ⟨b4, aE, a0, aL, aT, aA, bx, a2, aB⟩ := bS
  refine Zc (Zc (Zd (Za rfl rfl (Zm (v := Vi (ar)) rfl aB (Za rfl rfl (Zp F47_0 rfl aA rfl (Za rfl rfl (Zn ((aL).f2) A24 rfl rfl rfl (Za rfl rfl (Zr S24 rfl rfl (bd.mono a0) (Za rfl rfl (Zq rfl rfl rfl (Zb (Ze ?_))))))))))))))
  rcases ite_some j with ⟨ax, j⟩ | ⟨ax, j⟩
  ·refine W_cond_t rfl ax (W_skip (Ze (Zc (W_block (W_dl (n0 := 13) (qs 0 11 (.e 11 [0, 1] (.e 12 [] .done))) hmix (by kernel_rfl) (by kernel_rfl) ?_)))))
   have ap := aL.drew
   refine DL_q rfl rfl (Zp F47_0 rfl a2 rfl ⟨rfl, ?_⟩)
   refine DL_q rfl rfl (Zn ((ap).f4) A24 rfl rfl rfl ⟨rfl, ?_⟩)
   refine DL_q rfl rfl (Zp F37_0 rfl aT rfl ⟨rfl, ?_⟩)
   refine DL_q rfl rfl (Zn ((ap).f1) A24 rfl rfl rfl ⟨rfl, ?_⟩)
   refine DL_q rfl rfl (Zp F47_0 rfl aA rfl ⟨rfl, ?_⟩)
   refine DL_q rfl rfl (Zn ((ap).f2) A24 rfl rfl rfl ⟨rfl, ?_⟩)
   refine DL_q rfl rfl (Zm (v := Vi (ar)) rfl aB ⟨rfl, ?_⟩)
   obtain ⟨e1, c8, j⟩ := Zg j
   refine DL_q rfl rfl (Exec.index_repE S24 rfl rfl rfl (bd.mono a0) c8 ?_)
   intro df dF bH dq
   refine ⟨rfl, ?_⟩
   refine DL_q rfl rfl (Zw (E := (encInt .i64)) ap A3 rfl rfl rfl bH ?_)
   intro dX c9
   obtain rfl := encInt_val.1 c9
   refine ⟨rfl, ?_⟩
   obtain ⟨aH, cA, j⟩ := Zg j
   refine DL_q rfl rfl (Exec.index_repE S24 rfl rfl rfl (a6.mono a0) cA ?_)
   intro dg dG bI dr
   refine ⟨rfl, ?_⟩
   refine DL_q rfl rfl (Zw (E := (encInt .i64)) ap A3 rfl rfl rfl bI ?_)
   intro dY cB
   obtain rfl := encInt_val.1 cB
   refine ⟨rfl, ?_⟩
   refine DL_e rfl rfl (Exec.buildSlice (Te := 3) (cs := [Vi (aH)]) ap rfl (parts_cons (c := [Vi (aH)]) (cells_of rfl rfl) parts_nil) (fun _ => by kernel_rfl) ?_)
   intro dh ei bm
   refine ⟨(ag_cons (ag_r rfl rfl (Zp F47_0 rfl a2 rfl ⟨rfl, rfl⟩)) (ag_cons (ag_r rfl rfl (Zn ((bm).f5) A24 rfl rfl rfl ⟨rfl, rfl⟩)) ag_nil)), ?_⟩
   obtain ⟨dC, cC, j⟩ := Zg j
   refine DL_e rfl rfl (Exec.append_box (E := (encInt .i64)) (ys := [aH]) (bm).f6 S24 Z3 rfl (by decide) rfl rfl rfl rfl ⟨[Vi (aH)], [], rfl, rfl, rfl⟩ rfl cC ?_)
   intro aY ej aM
   refine ⟨ag_nil, ?_⟩
   refine DL_done (Za rfl rfl (Zp F47_0 rfl a2 rfl (Za rfl rfl (Exec.store_box (ds := [aY]) (es := [aY, Value.slice none 0 0, Value.slice none 0 0]) (aM).f5 A24 rfl rfl rfl (cells_one (((aM).f5).f1).arr_one) (Zj (((aM).f5).f1).arr_one one_nil) (Nat.le_of_ble_eq_true rfl) rfl ?_))))
   intro ek cd
   refine Zb (ib_normal (Ze (Zd (Za rfl rfl (Zm (v := Vi (ar)) rfl aB (Za rfl rfl (Exec.add rfl rfl rfl (Za rfl rfl (Zo (v := Vi (IntKind.i64.wrap (ar + 1))) rfl rfl (Zb (Ze ?_)))))))))))
   have dt := Zu j
   subst bg
   refine ⟨_, rfl, ?_⟩; exact ⟨b4, aY, a0, ((((((cd).f1).f1).f5).f5).f5).f5, aT, aA, bx, a2, rfl⟩
  refine W_cond_f rfl ax ?_
  replace ax := Zk ax
  refine W_exit (at_exit (at_exit (ib_here (Ze ?_))))
  have du := Zu j
  subst bg
  refine ⟨_, .inr (cu (by intro _ h; cases h)), ?_⟩; exact ⟨b4, aE, a0, ((((((aL).f5).f5).f5).f5).f5).f5, aT, aA, bx, a2, aB⟩
 rintro d4 el ⟨cZ, bq, bV⟩
 have hm := bq.elim (cq _) (cn _)
 clear bq
 obtain ⟨bt, av⟩ := cZ
 replace hm := un2_eq hm
 obtain ⟨aW, g, p, ce, cz, c0, c1, c2, dM⟩ := bV
 refine (Ze (Zc (Zc (Zd (Za rfl rfl (Zo (v := Vi (0)) rfl rfl (Zb (Ze ?_))))))))
 obtain ⟨bh, bQ, dA, cr, co⟩ := ctl_some hm
 refine W_mid (M := fun f' w' => ∃ s', (bh = .next s' ∨ bh = .brk s') ∧ (un2 fun (bu : Int) (aJ : (List Int)) => ∃ (b5 : PHeap) (x : Value), PHeap.le aW b5 ∧ St w0 b5 (Res.arr (encInt .i64) 3 a z.Ops :: Res.box l 37 [t, u, a] :: Res.box m 47 [af, ag, ah] :: Res.box n 47 [Value.slice none 0 0, Value.slice none 0 0, Value.slice none 0 0] :: Res.box o 47 [g, x, Value.slice none 0 0] :: Res.arr (encInt .i64) 3 g av :: Res.arr (encInt .i64) 3 x aJ :: H) w' ∧ f' 2 = Value.pointer (some ⟨l, 0, none⟩) ∧ f' 3 = Value.pointer (some ⟨m, 0, none⟩) ∧ f' 4 = Value.pointer (some ⟨n, 0, none⟩) ∧ f' 5 = Value.pointer (some ⟨o, 0, none⟩) ∧ f' 7 = Vi (bu)) s') ?_ ?_
 ·refine W_block (W_while (fun s' f' w' => (un2 fun (au : Int) (bE : (List Int)) => ∃ (b6 : PHeap) (aF : Value), PHeap.le aW b6 ∧ St w0 b6 (Res.arr (encInt .i64) 3 a z.Ops :: Res.box l 37 [t, u, a] :: Res.box m 47 [af, ag, ah] :: Res.box n 47 [Value.slice none 0 0, Value.slice none 0 0, Value.slice none 0 0] :: Res.box o 47 [g, aF, Value.slice none 0 0] :: Res.arr (encInt .i64) 3 g av :: Res.arr (encInt .i64) 3 aF bE :: H) w' ∧ f' 2 = Value.pointer (some ⟨l, 0, none⟩) ∧ f' 3 = Value.pointer (some ⟨m, 0, none⟩) ∧ f' 4 = Value.pointer (some ⟨n, 0, none⟩) ∧ f' 5 = Value.pointer (some ⟨o, 0, none⟩) ∧ f' 7 = Vi (au)) s') bQ ?_ ?_)
  ·have cf := ce.nilArr (encInt .i64) 3
   exact ⟨aW, (Value.slice none 0 0), (Zv _), ((((((cf).f6).f6).f6).f6).f6).f6, cz, c0, c1, c2, rfl⟩
  intro da bi d5 em bT k cv
  obtain ⟨au, bE⟩ := da
  replace k := un2_eq k
  obtain ⟨b7, aF, a1, aN, aU, aC, bz, a3, aD⟩ := bT
  refine Zc (Zc (Zd (Za rfl rfl (Zm (v := Vi (au)) rfl aD (Za rfl rfl (Zp F47_1 rfl aC rfl (Za rfl rfl (Zn ((aN).f2) A24 rfl rfl rfl (Za rfl rfl (Zr S24 rfl rfl (be.mono (Zt p a1)) (Za rfl rfl (Zq rfl rfl rfl (Zb (Ze ?_))))))))))))))
  rcases ite_some k with ⟨ay, k⟩ | ⟨ay, k⟩
  ·refine W_cond_t rfl ay (W_skip (Ze (Zc (W_block (W_dl (n0 := 13) (qs 0 11 (.e 11 [0, 1] (.e 12 [] .done))) hmix (by kernel_rfl) (by kernel_rfl) ?_)))))
   have aq := aN.drew
   refine DL_q rfl rfl (Zp F47_1 rfl a3 rfl ⟨rfl, ?_⟩)
   refine DL_q rfl rfl (Zn ((aq).f4) A24 rfl rfl rfl ⟨rfl, ?_⟩)
   refine DL_q rfl rfl (Zp F37_0 rfl aU rfl ⟨rfl, ?_⟩)
   refine DL_q rfl rfl (Zn ((aq).f1) A24 rfl rfl rfl ⟨rfl, ?_⟩)
   refine DL_q rfl rfl (Zp F47_1 rfl aC rfl ⟨rfl, ?_⟩)
   refine DL_q rfl rfl (Zn ((aq).f2) A24 rfl rfl rfl ⟨rfl, ?_⟩)
   refine DL_q rfl rfl (Zm (v := Vi (au)) rfl aD ⟨rfl, ?_⟩)
   obtain ⟨e2, cD, k⟩ := Zg k
   refine DL_q rfl rfl (Exec.index_repE S24 rfl rfl rfl (be.mono (Zt p a1)) cD ?_)
   intro di dH bJ dv
   refine ⟨rfl, ?_⟩
   refine DL_q rfl rfl (Zw (E := (encInt .i64)) aq A3 rfl rfl rfl bJ ?_)
   intro dZ cE
   obtain rfl := encInt_val.1 cE
   refine ⟨rfl, ?_⟩
   obtain ⟨aI, cF, k⟩ := Zg k
   refine DL_q rfl rfl (Exec.index_repE S24 rfl rfl rfl (a6.mono (Zt p a1)) cF ?_)
   intro dj dI bK dw
   refine ⟨rfl, ?_⟩
   refine DL_q rfl rfl (Zw (E := (encInt .i64)) aq A3 rfl rfl rfl bK ?_)
   intro ea cG
   obtain rfl := encInt_val.1 cG
   refine ⟨rfl, ?_⟩
   refine DL_e rfl rfl (Exec.buildSlice (Te := 3) (cs := [Vi (aI)]) aq rfl (parts_cons (c := [Vi (aI)]) (cells_of rfl rfl) parts_nil) (fun _ => by kernel_rfl) ?_)
   intro dk en bn
   refine ⟨(ag_cons (ag_r rfl rfl (Zp F47_1 rfl a3 rfl ⟨rfl, rfl⟩)) (ag_cons (ag_r rfl rfl (Zn ((bn).f5) A24 rfl rfl rfl ⟨rfl, rfl⟩)) ag_nil)), ?_⟩
   obtain ⟨dD, cH, k⟩ := Zg k
   refine DL_e rfl rfl (Exec.append_box (E := (encInt .i64)) (ys := [aI]) (bn).f7 S24 Z3 rfl (by decide) rfl rfl rfl rfl ⟨[Vi (aI)], [], rfl, rfl, rfl⟩ rfl cH ?_)
   intro aZ eo aO
   refine ⟨ag_nil, ?_⟩
   refine DL_done (Za rfl rfl (Zp F47_1 rfl a3 rfl (Za rfl rfl (Exec.store_box (ds := [aZ]) (es := [g, aZ, Value.slice none 0 0]) (aO).f5 A24 rfl rfl rfl (cells_one (((aO).f5).f1).arr_one) (Zj (((aO).f5).f1).arr_one one_nil) (Nat.le_of_ble_eq_true rfl) rfl ?_))))
   intro ep cg
   refine Zb (ib_normal (Ze (Zd (Za rfl rfl (Zm (v := Vi (au)) rfl aD (Za rfl rfl (Exec.add rfl rfl rfl (Za rfl rfl (Zo (v := Vi (IntKind.i64.wrap (au + 1))) rfl rfl (Zb (Ze ?_)))))))))))
   have dx := Zu k
   subst bi
   refine ⟨_, rfl, ?_⟩; exact ⟨b7, aZ, a1, (((((((cg).f1).f6).f2).f6).f6).f6).f6, aU, aC, bz, a3, rfl⟩
  refine W_cond_f rfl ay ?_
  replace ay := Zk ay
  refine W_exit (at_exit (at_exit (ib_here (Ze ?_))))
  have dy := Zu k
  subst bi
  refine ⟨_, .inr (cv (by intro _ h; cases h)), ?_⟩; exact ⟨b7, aF, a1, (((((((aN).f6).f6).f6).f6).f6).f6).f6, aU, aC, bz, a3, aD⟩
 rintro d6 er ⟨db, br, bW⟩
 have hm := br.elim (cr _) (co _)
 clear br
 obtain ⟨bu, aJ⟩ := db
 replace hm := un2_eq hm
 obtain ⟨aX, x, ac, ch, c3, c4, c5, c6, dN⟩ := bW
 refine (Ze (Zc (Zc (Zd (Za rfl rfl (Zo (v := Vi (0)) rfl rfl (Zb (Ze ?_))))))))
 obtain ⟨bj, bR, dB, ct, cp⟩ := ctl_some hm
 refine W_mid (M := fun f' w' => ∃ s', (bj = .next s' ∨ bj = .brk s') ∧ (un2 fun (bv : Int) (bF : (List GTest)) => ∃ (b8 : PHeap) (ao : Value), PHeap.le aX b8 ∧ St w0 b8 (Res.arr (encInt .i64) 3 a z.Ops :: Res.box l 37 [t, u, a] :: Res.box m 47 [af, ag, ah] :: Res.box n 47 [Value.slice none 0 0, Value.slice none 0 0, Value.slice none 0 0] :: Res.box o 47 [g, x, ao] :: Res.arr (encInt .i64) 3 g av :: Res.arr (encInt .i64) 3 x aJ :: Res.arr encGTest 129 ao bF :: H) w' ∧ f' 2 = Value.pointer (some ⟨l, 0, none⟩) ∧ f' 3 = Value.pointer (some ⟨m, 0, none⟩) ∧ f' 4 = Value.pointer (some ⟨n, 0, none⟩) ∧ f' 5 = Value.pointer (some ⟨o, 0, none⟩) ∧ f' 8 = Vi (bv)) s') ?_ ?_
 ·refine W_block (W_while (fun s' f' w' => (un2 fun (y : Int) (bG : (List GTest)) => ∃ (b9 : PHeap) (aG : Value), PHeap.le aX b9 ∧ St w0 b9 (Res.arr (encInt .i64) 3 a z.Ops :: Res.box l 37 [t, u, a] :: Res.box m 47 [af, ag, ah] :: Res.box n 47 [Value.slice none 0 0, Value.slice none 0 0, Value.slice none 0 0] :: Res.box o 47 [g, x, aG] :: Res.arr (encInt .i64) 3 g av :: Res.arr (encInt .i64) 3 x aJ :: Res.arr encGTest 129 aG bG :: H) w' ∧ f' 2 = Value.pointer (some ⟨l, 0, none⟩) ∧ f' 3 = Value.pointer (some ⟨m, 0, none⟩) ∧ f' 4 = Value.pointer (some ⟨n, 0, none⟩) ∧ f' 5 = Value.pointer (some ⟨o, 0, none⟩) ∧ f' 8 = Vi (y)) s') bR ?_ ?_)
  ·have ci := ch.nilArr encGTest 129
   exact ⟨aX, (Value.slice none 0 0), (Zv _), (((((((ci).f7).f7).f7).f7).f7).f7).f7, c3, c4, c5, c6, rfl⟩
  intro dc bk d7 et bU i cw
  obtain ⟨y, bG⟩ := dc
  replace i := un2_eq i
  obtain ⟨cV, aG, ab, aP, a4, ad, b0, an, ae⟩ := bU
  refine Zc (Zc (Zd (Za rfl rfl (Zm (v := Vi (y)) rfl ae (Za rfl rfl (Zp F47_2 rfl ad rfl (Za rfl rfl (Zn ((aP).f2) A45 rfl rfl rfl (Za rfl rfl (Zr S45 rfl rfl (a7.mono (Zt (Zt p ac) ab)) (Za rfl rfl (Zq rfl rfl rfl (Zb (Ze ?_))))))))))))))
  rcases ite_some i with ⟨az, i⟩ | ⟨az, i⟩
  ·refine W_cond_t rfl az (W_skip (Ze (Zc (W_block (W_dl (n0 := 27) (qs 0 15 (qs 16 7 (.e 15 [0, 1, 2, 3, 4, 5, 6, 7, 16, 17, 18, 19, 20, 21, 22] (.e 23 [0, 1, 2, 3, 4, 5, 6, 7] (.q 24 (.e 25 [0, 1] (.e 26 [] .done))))))) hmix (by kernel_rfl) (by kernel_rfl) ?_)))))
   have aa := aP.drew
   refine DL_q rfl rfl (Zp F47_2 rfl an rfl ⟨rfl, ?_⟩)
   refine DL_q rfl rfl (Zn ((aa).f4) A45 rfl rfl rfl ⟨rfl, ?_⟩)
   refine DL_q rfl rfl (Zp F47_2 rfl ad rfl ⟨rfl, ?_⟩)
   refine DL_q rfl rfl (Zn ((aa).f2) A45 rfl rfl rfl ⟨rfl, ?_⟩)
   refine DL_q rfl rfl (Zm (v := Vi (y)) rfl ae ⟨rfl, ?_⟩)
   obtain ⟨ak, aV, i⟩ := Zg i
   refine DL_q rfl rfl (Exec.index_repE S45 rfl rfl rfl (a7.mono (Zt (Zt p ac) ab)) aV ?_)
   intro dl dJ aK bl
   refine ⟨rfl, ?_⟩
   refine DL_q rfl rfl (Zp F129_0 rfl rfl rfl ⟨rfl, ?_⟩)
   refine DL_q rfl rfl (Zw (E := encStr) aa A9 rfl rfl rfl (aK.sub (Sub.iso (Sub.fst (Sub.refl _))) rfl) ?_)
   intro de cI
   obtain rfl : de = Value.string (ak.Op) := encStr_val.1 cI
   refine ⟨rfl, ?_⟩
   refine DL_q rfl rfl (Exec.load_box_agg (ds := [t, u, a]) ((aa).f1) A37 rfl a4 rfl ⟨rfl, ?_⟩)
   refine DL_q rfl rfl (Zp F47_2 rfl ad rfl ⟨rfl, ?_⟩)
   refine DL_q rfl rfl (Zn ((aa).f2) A45 rfl rfl rfl ⟨rfl, ?_⟩)
   refine DL_q rfl rfl (Zm (v := Vi (y)) rfl ae ⟨rfl, ?_⟩)
   refine DL_q rfl rfl (Exec.index_repE S45 rfl rfl rfl (a7.mono (Zt (Zt p ac) ab)) aV ?_)
   intro dm dK bL dz
   refine ⟨rfl, ?_⟩
   refine DL_q rfl rfl (Zp F129_1 rfl rfl rfl ⟨rfl, ?_⟩)
   refine DL_q rfl rfl (Zw (E := encGExpr) aa A82 rfl rfl rfl (bL.sub (Sub.iso (Sub.snd (Sub.fst (Sub.refl _)) rfl)) rfl) ?_)
   intro eb cJ
   obtain ⟨dV, rfl, cO⟩ := encGExpr_val.1 cJ
   refine ⟨rfl, ?_⟩
   refine DL_q rfl rfl (Exec.load_box_agg (ds := [t, u, a]) ((aa).f1) A37 rfl a4 rfl ⟨rfl, ?_⟩)
   refine DL_q rfl rfl (Zp F47_2 rfl ad rfl ⟨rfl, ?_⟩)
   refine DL_q rfl rfl (Zn ((aa).f2) A45 rfl rfl rfl ⟨rfl, ?_⟩)
   refine DL_q rfl rfl (Zm (v := Vi (y)) rfl ae ⟨rfl, ?_⟩)
   refine DL_q rfl rfl (Exec.index_repE S45 rfl rfl rfl (a7.mono (Zt (Zt p ac) ab)) aV ?_)
   intro dn dL bM bN
   refine ⟨rfl, ?_⟩
   refine DL_q rfl rfl (Zp F129_2 rfl rfl rfl ⟨rfl, ?_⟩)
   refine DL_q rfl rfl (Exec.load_atR (E := encGExpr) aa A82 rfl rfl rfl (bM.sub (Sub.iso (Sub.snd (Sub.snd (Sub.refl _) rfl) rfl)) rfl) ?_)
   intro ec cK bO
   obtain ⟨dW, rfl, cP⟩ := encGExpr_val.1 cK
   refine ⟨rfl, ?_⟩
   obtain ⟨b, cL, i⟩ := Zg i
   refine DL_e rfl rfl (Tc rfl rfl rfl (Zi rfl (Zi rfl args_nil)) (ref19_Map_expr_o_sim cL aa (a6.mono (Zt (Zt p ac) ab)) (bc.mono (Zt (Zt p ac) ab)) cO).r ?_)
   rintro _ eu ⟨dR, ai, am, al, rfl, cQ⟩
   refine ⟨(ag_cons (ag_r rfl rfl (Zp F47_2 rfl an rfl ⟨rfl, rfl⟩)) (ag_cons (ag_r rfl rfl (Zn ((al).f4) A45 rfl rfl rfl ⟨rfl, rfl⟩)) (ag_cons (ag_r rfl rfl (Zp F47_2 rfl ad rfl ⟨rfl, rfl⟩)) (ag_cons (ag_r rfl rfl (Zn ((al).f2) A45 rfl rfl rfl ⟨rfl, rfl⟩)) (ag_cons (ag_r rfl rfl (Zm (v := Vi (y)) rfl ae ⟨rfl, rfl⟩)) (ag_cons (ag_r rfl rfl (Exec.index_run rfl rfl rfl bl ⟨rfl, rfl⟩)) (ag_cons (ag_r rfl rfl (Zp F129_0 rfl rfl rfl ⟨rfl, rfl⟩)) (ag_cons (ag_r rfl rfl (Zw (E := encStr) al A9 rfl rfl rfl ((aK.sub (Sub.iso (Sub.fst (Sub.refl _))) rfl).mono am) (fun _ q => ⟨rfl, encStr_val.1 q⟩))) (ag_cons (ag_r rfl rfl (Exec.load_box_agg (ds := [t, u, a]) ((al).f1) A37 rfl a4 rfl ⟨rfl, rfl⟩)) (ag_cons (ag_r rfl rfl (Zp F47_2 rfl ad rfl ⟨rfl, rfl⟩)) (ag_cons (ag_r rfl rfl (Zn ((al).f2) A45 rfl rfl rfl ⟨rfl, rfl⟩)) (ag_cons (ag_r rfl rfl (Zm (v := Vi (y)) rfl ae ⟨rfl, rfl⟩)) (ag_cons (ag_r rfl rfl (Exec.index_run rfl rfl rfl bN ⟨rfl, rfl⟩)) (ag_cons (ag_r rfl rfl (Zp F129_2 rfl rfl rfl ⟨rfl, rfl⟩)) (ag_cons (ag_r rfl rfl (Exec.load_run rfl rfl (bO am al) ⟨rfl, rfl⟩)) ag_nil))))))))))))))), ?_⟩
   obtain ⟨d, cM, i⟩ := Zg i
   refine DL_e rfl rfl (Tc rfl rfl rfl (Zi rfl (Zi rfl args_nil)) (ref19_Map_expr_o_sim cM al (a6.mono (Zt (Zt (Zt p ac) ab) am)) (bc.mono (Zt (Zt (Zt p ac) ab) am)) (cP.mono am)).r ?_)
   rintro _ ev ⟨cW, aj, aR, a9, rfl, cR⟩
   refine ⟨(ag_cons (ag_r rfl rfl (Zp F47_2 rfl an rfl ⟨rfl, rfl⟩)) (ag_cons (ag_r rfl rfl (Zn ((a9).f4) A45 rfl rfl rfl ⟨rfl, rfl⟩)) (ag_cons (ag_r rfl rfl (Zp F47_2 rfl ad rfl ⟨rfl, rfl⟩)) (ag_cons (ag_r rfl rfl (Zn ((a9).f2) A45 rfl rfl rfl ⟨rfl, rfl⟩)) (ag_cons (ag_r rfl rfl (Zm (v := Vi (y)) rfl ae ⟨rfl, rfl⟩)) (ag_cons (ag_r rfl rfl (Exec.index_run rfl rfl rfl bl ⟨rfl, rfl⟩)) (ag_cons (ag_r rfl rfl (Zp F129_0 rfl rfl rfl ⟨rfl, rfl⟩)) (ag_cons (ag_r rfl rfl (Zw (E := encStr) a9 A9 rfl rfl rfl ((aK.sub (Sub.iso (Sub.fst (Sub.refl _))) rfl).mono (Zt am aR)) (fun _ q => ⟨rfl, encStr_val.1 q⟩))) ag_nil)))))))), ?_⟩
   refine DL_q rfl rfl (Exec.build rfl (parts_cons (c := [Value.string (ak.Op)]) (cells_of rfl rfl) (parts_cons (c := [Value.string (b.Op), Vi (b.N), ai]) (cells_of rfl rfl) (parts_cons (c := [Value.string (d.Op), Vi (d.N), aj]) (cells_of rfl rfl) parts_nil))) (v := Value.agg #[Value.string (ak.Op), Value.string (b.Op), Vi (b.N), ai, Value.string (d.Op), Vi (d.N), aj]) (fun _ => by kernel_rfl) ⟨rfl, ?_⟩)
   refine DL_e rfl rfl (Exec.buildSlice (Te := 129) (cs := [Value.string (ak.Op), Value.string (b.Op), Vi (b.N), ai, Value.string (d.Op), Vi (d.N), aj]) a9 rfl (parts_cons (c := [Value.string (ak.Op), Value.string (b.Op), Vi (b.N), ai, Value.string (d.Op), Vi (d.N), aj]) (cells_of rfl rfl) parts_nil) (fun _ => by kernel_rfl) ?_)
   intro dp ew bo
   refine ⟨(ag_cons (ag_r rfl rfl (Zp F47_2 rfl an rfl ⟨rfl, rfl⟩)) (ag_cons (ag_r rfl rfl (Zn ((bo).f5) A45 rfl rfl rfl ⟨rfl, rfl⟩)) ag_nil)), ?_⟩
   obtain ⟨dE, cN, i⟩ := Zg i
   refine DL_e rfl rfl (Exec.append_box (E := encGTest) (ys := [(⟨ak.Op, b, d⟩ : GTest)]) (bo).f8 S45 Z129 rfl (by decide) rfl rfl rfl rfl ⟨[Value.string (ak.Op), Value.string (b.Op), Vi (b.N), ai, Value.string (d.Op), Vi (d.N), aj], [], rfl, ⟨[Value.string (ak.Op)], [Value.string (b.Op), Vi (b.N), ai, Value.string (d.Op), Vi (d.N), aj], rfl, rfl, ⟨[Value.string (b.Op), Vi (b.N), ai], [Value.string (d.Op), Vi (d.N), aj], rfl, ((encGExpr_iff _ _ _).2 ⟨[Value.string (b.Op)], [Vi (b.N), ai], rfl, rfl, ⟨[Vi (b.N)], [ai], rfl, rfl, ⟨_, rfl, (cQ.mono aR)⟩⟩⟩), ((encGExpr_iff _ _ _).2 ⟨[Value.string (d.Op)], [Vi (d.N), aj], rfl, rfl, ⟨[Vi (d.N)], [aj], rfl, rfl, ⟨_, rfl, cR⟩⟩⟩)⟩⟩, rfl⟩ rfl cN ?_)
   intro ba ex aQ
   refine ⟨ag_nil, ?_⟩
   refine DL_done (Za rfl rfl (Zp F47_2 rfl an rfl (Za rfl rfl (Exec.store_box (ds := [ba]) (es := [g, x, ba]) (aQ).f5 A45 rfl rfl rfl (cells_one (((aQ).f5).f1).arr_one) (Zj (((aQ).f5).f1).arr_one one_nil) (Nat.le_of_ble_eq_true rfl) rfl ?_))))
   intro ey cj
   refine Zb (ib_normal (Ze (Zd (Za rfl rfl (Zm (v := Vi (y)) rfl ae (Za rfl rfl (Exec.add rfl rfl rfl (Za rfl rfl (Zo (v := Vi (IntKind.i64.wrap (y + 1))) rfl rfl (Zb (Ze ?_)))))))))))
   have d0 := Zu i
   subst bk
   refine ⟨_, rfl, ?_⟩; exact ⟨cW, ba, (Zt (Zt ab am) aR), ((((((((cj).f1).f7).f7).f3).f7).f7).f7).f7, a4, ad, b0, an, rfl⟩
  refine W_cond_f rfl az ?_
  replace az := Zk az
  refine W_exit (at_exit (at_exit (ib_here (Ze ?_))))
  have d1 := Zu i
  subst bk
  refine ⟨_, .inr (cw (by intro _ h; cases h)), ?_⟩; exact ⟨cV, aG, ab, ((((((((aP).f7).f7).f7).f7).f7).f7).f7).f7, a4, ad, b0, an, ae⟩
 rintro d8 ez ⟨dd, bs, bX⟩
 have hm := bs.elim (ct _) (cp _)
 clear bs
 obtain ⟨bv, bF⟩ := dd
 replace hm := un2_eq hm
 obtain ⟨dS, ao, cx, aw, dO, dP, b1, c7, dQ⟩ := bX
 refine (Ze (Zc (Zd (Za rfl rfl (Exec.load_box_agg (ds := [g, x, ao]) ((aw).f4) A47 rfl c7 rfl (Za rfl rfl (Exec.store_box (ds := [g, x, ao]) (es := [g, x, ao]) (aw).f3 A47 rfl b1 rfl rfl (Zj (((aw).f3).f5).arr_one (Zj (((aw).f3).f6).arr_one (Zj (((aw).f3).f7).arr_one one_nil))) (Nat.le_of_ble_eq_true rfl) rfl ?_)))))))
 intro e0 bp
 refine Zb (Ze (W_ret ?_))
 have d2 := Zu hm
 subst r
 refine ⟨_, retG1 rfl ⟨_, _, b1, cellRes (bp) A47⟩, ?_⟩
 obtain ⟨dT, cy, ck, cS⟩ := (bp).f5.freezeArr
 obtain ⟨dU, bw, cl, cT⟩ := (ck).f5.freezeArr
 obtain ⟨cX, aS, cm, cU⟩ := (cl).f5.freezeArr
 exact ⟨cX, g, x, ao, (Zt (Zt (Zt (Zt (Zt p ac) cx) cy) bw) aS), (((((((cm).drop).f1).drop).f1).drop).f1).drop, rfl, (cS.mono (Zt bw aS)), (cT.mono aS), cU⟩
theorem ref19_Map_operator_o_sim {w0 w : World} {s : PHeap} {H : List Res} {fu : Nat} {ab : ref19_Map} {a : GOp} {p : Value} {t : Value} {b : Value} {ac : Value} {ad : Value} {ae : Value} {ah : Value} {ai : Value} {r : GOp} (hm : ref19_Map_operator_o_p fu ab a = some r) (hS : St w0 s (Res.arr (encInt .i64) 3 b ab.Ops :: H) w) (a5 : SliceRep (encInt .i64) s p ab.Atoms) (aC : SliceRep (encInt .i64) s t ab.Fluents) (bq : SliceRep (encInt .i64) s ac a.Pre.Pos) (br : SliceRep (encInt .i64) s ad a.Pre.Neg) (bs : SliceRep encGTest s ae a.Pre.Tests) (bt : SliceRep encGChange s ah a.Changes) (aY : SliceRep encGAssign s ai a.Assigns) :
  Calls Try.prog 44 #[Value.agg #[p, t, b], Value.agg #[Value.string (a.Name), Vi (a.Cost), ac, ad, ae, ah, ai]] w fun e w' => ∃ v, e = .returned v ∧ ((fun (a4 : GOp) => ∃ (ax : PHeap) (bW : Value) (bX : Value) (bY : Value) (bZ : Value) (ca : Value), PHeap.le s ax ∧ St w0 ax (Res.arr (encInt .i64) 3 b ab.Ops :: H) w' ∧ v = Value.agg #[Value.string (a4.Name), Vi (a4.Cost), bW, bX, bY, bZ, ca] ∧ SliceRep (encInt .i64) ax bW a4.Pre.Pos ∧ SliceRep (encInt .i64) ax bX a4.Pre.Neg ∧ SliceRep encGTest ax bY a4.Pre.Tests ∧ SliceRep encGChange ax bZ a4.Changes ∧ SliceRep encGAssign ax ca a4.Assigns) r) := by
 unfold ref19_Map_operator_o_p at hm
 refine calls_of_W Try.func44 rfl rfl (Zc (Zd (Za rfl rfl (Exec.box (cs := [p, t, b]) hS rfl rfl rfl ?_))))
 intro u ep cv
 refine Za rfl rfl (Exec.box (cs := [Value.string (a.Name), Vi (a.Cost), ac, ad, ae, ah, ai]) cv rfl rfl rfl ?_)
 intro x er cw
 refine Za rfl rfl (Exec.alloc (cs := [Value.string (⟨#[]⟩), Vi (0), Value.slice none 0 0, Value.slice none 0 0, Value.slice none 0 0, Value.slice none 0 0, Value.slice none 0 0]) cw Z51 rfl rfl ?_)
 intro y et cx
 refine Zb (Ze (Zc ?_))
 obtain ⟨bp, bF, hm⟩ := Zg hm
 refine W_mid (M := fun f' w' => ∃ (aO : PHeap) (i : Value) (j : Value) (k : Value) (l : Nat), PHeap.le s aO ∧ St w0 aO (Res.arr (encInt .i64) 3 b ab.Ops :: Res.box u 37 [p, t, b] :: Res.box x 51 [Value.string (a.Name), Vi (a.Cost), ac, ad, ae, ah, ai] :: Res.box y 51 [Value.string (⟨#[]⟩), Vi (0), Value.slice none 0 0, Value.slice none 0 0, Value.slice none 0 0, Value.slice none 0 0, Value.slice none 0 0] :: Res.box l 51 [Value.string (a.Name), Vi (a.Cost), i, j, k, Value.slice none 0 0, Value.slice none 0 0] :: H) w' ∧ f' 2 = Value.pointer (some ⟨u, 0, none⟩) ∧ f' 3 = Value.pointer (some ⟨x, 0, none⟩) ∧ f' 4 = Value.pointer (some ⟨y, 0, none⟩) ∧ f' 5 = Value.pointer (some ⟨l, 0, none⟩) ∧ SliceRep (encInt .i64) aO i bp.Pos ∧ SliceRep (encInt .i64) aO j bp.Neg ∧ SliceRep encGTest aO k bp.Tests) ?_ ?_
 ·refine W_dl (n0 := 10) (qs 0 7 (.alt (.e 7 [0, 1, 2, 3] (.q 8 (.e 9 [0, 1, 2, 3, 8] .done))) (.e 9 [0, 1, 2, 3, 4, 5, 6] (.e 7 [0, 1, 2, 3] (.q 8 .done))))) hmix (by kernel_rfl) (by kernel_rfl) ?_
  have a6 := cx.drew
  refine DL_q rfl rfl (Zp F51_0 rfl rfl rfl ⟨rfl, ?_⟩)
  refine DL_q rfl rfl (Zn ((a6).f1) A9 rfl rfl rfl ⟨rfl, ?_⟩)
  refine DL_q rfl rfl (Zp F51_1 rfl rfl rfl ⟨rfl, ?_⟩)
  refine DL_q rfl rfl (Zn ((a6).f1) A3 rfl rfl rfl ⟨rfl, ?_⟩)
  refine DL_q rfl rfl (Exec.load_box_agg (ds := [p, t, b]) ((a6).f2) A37 rfl rfl rfl ⟨rfl, ?_⟩)
  refine DL_q rfl rfl (Zp F51_2 rfl rfl rfl ⟨rfl, ?_⟩)
  refine DL_q rfl rfl (Exec.load_box_agg (ds := [ac, ad, ae]) ((a6).f1) A47 rfl rfl rfl ⟨rfl, ?_⟩)
  refine DL_alt ?_ ?_
  ·have cy := (a6).f3
   refine DL_e rfl rfl (Tc rfl rfl rfl (Zi rfl (Zi rfl args_nil)) (ref19_Map_cond_o_sim bF cy a5 aC bq br bs).r ?_)
   rintro _ eu ⟨dt, ay, az, a0, cH, aZ, rfl, bI, bJ, bK⟩
   refine ⟨(ag_cons (ag_r rfl rfl (Zp F51_0 rfl rfl rfl ⟨rfl, rfl⟩)) (ag_cons (ag_r rfl rfl (Zn ((aZ).f2) A9 rfl rfl rfl ⟨rfl, rfl⟩)) (ag_cons (ag_r rfl rfl (Zp F51_1 rfl rfl rfl ⟨rfl, rfl⟩)) (ag_cons (ag_r rfl rfl (Zn ((aZ).f2) A3 rfl rfl rfl ⟨rfl, rfl⟩)) ag_nil)))), ?_⟩
   refine DL_q rfl rfl (Exec.build rfl (parts_cons (c := [Value.string (a.Name)]) (cells_of rfl rfl) (parts_cons (c := [Vi (a.Cost)]) (cells_of rfl rfl) (parts_cons (c := [ay, az, a0]) (cells_of rfl rfl) parts_nil))) (v := Value.agg #[Value.string (a.Name), Vi (a.Cost), ay, az, a0, Value.slice none 0 0, Value.slice none 0 0]) (fun _ => by kernel_rfl) ⟨rfl, ?_⟩)
   refine DL_e rfl rfl (Exec.alloc (cs := [Value.string (⟨#[]⟩), Vi (0), Value.slice none 0 0, Value.slice none 0 0, Value.slice none 0 0, Value.slice none 0 0, Value.slice none 0 0]) aZ Z51 rfl rfl ?_)
   intro ch ev ba
   refine ⟨(ag_cons (ag_r rfl rfl (Zp F51_0 rfl rfl rfl ⟨rfl, rfl⟩)) (ag_cons (ag_r rfl rfl (Zn ((ba).f3) A9 rfl rfl rfl ⟨rfl, rfl⟩)) (ag_cons (ag_r rfl rfl (Zp F51_1 rfl rfl rfl ⟨rfl, rfl⟩)) (ag_cons (ag_r rfl rfl (Zn ((ba).f3) A3 rfl rfl rfl ⟨rfl, rfl⟩)) (ag_cons (ag_r rfl rfl (Exec.build rfl (parts_cons (c := [Value.string (a.Name)]) (cells_of rfl rfl) (parts_cons (c := [Vi (a.Cost)]) (cells_of rfl rfl) (parts_cons (c := [ay, az, a0]) (cells_of rfl rfl) parts_nil))) (v := Value.agg #[Value.string (a.Name), Vi (a.Cost), ay, az, a0, Value.slice none 0 0, Value.slice none 0 0]) (fun _ => by kernel_rfl) ⟨rfl, rfl⟩)) ag_nil))))), ?_⟩
   refine DL_done (Za rfl rfl (Exec.store_box (ds := [Value.string (a.Name), Vi (a.Cost), ay, az, a0, Value.slice none 0 0, Value.slice none 0 0]) (es := [Value.string (a.Name), Vi (a.Cost), ay, az, a0, Value.slice none 0 0, Value.slice none 0 0]) ba A51 rfl rfl rfl rfl (Zj rfl (Zj rfl (Zj (bI).one (Zj (bJ).one (Zj (bK).one (Zj rfl (Zj rfl one_nil))))))) (Nat.le_of_ble_eq_true rfl) rfl ?_))
   intro ew cz
   refine Zb (Ze ?_)
   exact ⟨dt, ay, az, a0, ch, cH, ((((cz).f2).f3).f4).f4, rfl, rfl, rfl, rfl, bI, bJ, bK⟩
  refine DL_e rfl rfl (Exec.alloc (cs := [Value.string (⟨#[]⟩), Vi (0), Value.slice none 0 0, Value.slice none 0 0, Value.slice none 0 0, Value.slice none 0 0, Value.slice none 0 0]) a6 Z51 rfl rfl ?_)
  intro ci ex aD
  refine ⟨(ag_cons (ag_r rfl rfl (Zp F51_0 rfl rfl rfl ⟨rfl, rfl⟩)) (ag_cons (ag_r rfl rfl (Zn ((aD).f2) A9 rfl rfl rfl ⟨rfl, rfl⟩)) (ag_cons (ag_r rfl rfl (Zp F51_1 rfl rfl rfl ⟨rfl, rfl⟩)) (ag_cons (ag_r rfl rfl (Zn ((aD).f2) A3 rfl rfl rfl ⟨rfl, rfl⟩)) (ag_cons (ag_r rfl rfl (Exec.load_box_agg (ds := [p, t, b]) ((aD).f3) A37 rfl rfl rfl ⟨rfl, rfl⟩)) (ag_cons (ag_r rfl rfl (Zp F51_2 rfl rfl rfl ⟨rfl, rfl⟩)) (ag_cons (ag_r rfl rfl (Exec.load_box_agg (ds := [ac, ad, ae]) ((aD).f2) A47 rfl rfl rfl ⟨rfl, rfl⟩)) ag_nil))))))), ?_⟩
  refine DL_e rfl rfl (Tc rfl rfl rfl (Zi rfl (Zi rfl args_nil)) (ref19_Map_cond_o_sim bF (aD).f4 a5 aC bq br bs).r ?_)
  rintro _ ey ⟨du, aP, aQ, aR, cI, bb, rfl, bL, bM, bN⟩
  refine ⟨(ag_cons (ag_r rfl rfl (Zp F51_0 rfl rfl rfl ⟨rfl, rfl⟩)) (ag_cons (ag_r rfl rfl (Zn ((bb).f3) A9 rfl rfl rfl ⟨rfl, rfl⟩)) (ag_cons (ag_r rfl rfl (Zp F51_1 rfl rfl rfl ⟨rfl, rfl⟩)) (ag_cons (ag_r rfl rfl (Zn ((bb).f3) A3 rfl rfl rfl ⟨rfl, rfl⟩)) ag_nil)))), ?_⟩
  refine DL_q rfl rfl (Exec.build rfl (parts_cons (c := [Value.string (a.Name)]) (cells_of rfl rfl) (parts_cons (c := [Vi (a.Cost)]) (cells_of rfl rfl) (parts_cons (c := [aP, aQ, aR]) (cells_of rfl rfl) parts_nil))) (v := Value.agg #[Value.string (a.Name), Vi (a.Cost), aP, aQ, aR, Value.slice none 0 0, Value.slice none 0 0]) (fun _ => by kernel_rfl) ⟨rfl, ?_⟩)
  refine DL_done (Za rfl rfl (Exec.store_box (ds := [Value.string (a.Name), Vi (a.Cost), aP, aQ, aR, Value.slice none 0 0, Value.slice none 0 0]) (es := [Value.string (a.Name), Vi (a.Cost), aP, aQ, aR, Value.slice none 0 0, Value.slice none 0 0]) (bb).f1 A51 rfl rfl rfl rfl (Zj rfl (Zj rfl (Zj (bL).one (Zj (bM).one (Zj (bN).one (Zj rfl (Zj rfl one_nil))))))) (Nat.le_of_ble_eq_true rfl) rfl ?_))
  intro ez c0
  refine Zb (Ze ?_)
  exact ⟨du, aP, aQ, aR, ci, cI, ((((c0).f2).f3).f4).f4, rfl, rfl, rfl, rfl, bL, bM, bN⟩
 intro dM e0 cq
 obtain ⟨bh, i, j, k, l, n, c1, cK, cL, cM, cN, b7, b8, b9⟩ := cq
 refine (Ze (Zc (Zc (Zd (Za rfl rfl (Zo (v := Vi (0)) rfl rfl (Zb (Ze ?_))))))))
 obtain ⟨bx, cm, dS, cD, cB⟩ := ctl_some hm
 refine W_mid (M := fun f' w' => ∃ s', (bx = .next s' ∨ bx = .brk s') ∧ (un2 fun (bA : Int) (aX : (List GChange)) => ∃ (bR : PHeap) (z : Value), PHeap.le bh bR ∧ St w0 bR (Res.arr (encInt .i64) 3 b ab.Ops :: Res.box u 37 [p, t, b] :: Res.box x 51 [Value.string (a.Name), Vi (a.Cost), ac, ad, ae, ah, ai] :: Res.box y 51 [Value.string (⟨#[]⟩), Vi (0), Value.slice none 0 0, Value.slice none 0 0, Value.slice none 0 0, Value.slice none 0 0, Value.slice none 0 0] :: Res.box l 51 [Value.string (a.Name), Vi (a.Cost), i, j, k, z, Value.slice none 0 0] :: Res.arr encGChange 58 z aX :: H) w' ∧ f' 2 = Value.pointer (some ⟨u, 0, none⟩) ∧ f' 3 = Value.pointer (some ⟨x, 0, none⟩) ∧ f' 4 = Value.pointer (some ⟨y, 0, none⟩) ∧ f' 5 = Value.pointer (some ⟨l, 0, none⟩) ∧ f' 6 = Vi (bA)) s') ?_ ?_
 ·refine W_block (W_while (fun s' f' w' => (un2 fun (ar : Int) (cb : (List GChange)) => ∃ (bS : PHeap) (aS : Value), PHeap.le bh bS ∧ St w0 bS (Res.arr (encInt .i64) 3 b ab.Ops :: Res.box u 37 [p, t, b] :: Res.box x 51 [Value.string (a.Name), Vi (a.Cost), ac, ad, ae, ah, ai] :: Res.box y 51 [Value.string (⟨#[]⟩), Vi (0), Value.slice none 0 0, Value.slice none 0 0, Value.slice none 0 0, Value.slice none 0 0, Value.slice none 0 0] :: Res.box l 51 [Value.string (a.Name), Vi (a.Cost), i, j, k, aS, Value.slice none 0 0] :: Res.arr encGChange 58 aS cb :: H) w' ∧ f' 2 = Value.pointer (some ⟨u, 0, none⟩) ∧ f' 3 = Value.pointer (some ⟨x, 0, none⟩) ∧ f' 4 = Value.pointer (some ⟨y, 0, none⟩) ∧ f' 5 = Value.pointer (some ⟨l, 0, none⟩) ∧ f' 6 = Vi (ar)) s') cm ?_ ?_)
  ·have c2 := c1.nilArr encGChange 58
   exact ⟨bh, (Value.slice none 0 0), (Zv _), (((((c2).f5).f5).f5).f5).f5, cK, cL, cM, cN, rfl⟩
  intro d0 bz dN e1 co m cF
  obtain ⟨ar, cb⟩ := d0
  replace m := un2_eq m
  obtain ⟨bi, aS, al, aE, av, aL, bg, aw, aM⟩ := co
  refine Zc (Zc (Zd (Za rfl rfl (Zm (v := Vi (ar)) rfl aM (Za rfl rfl (Zp F51_3 rfl aL rfl (Za rfl rfl (Zn ((aE).f2) A48 rfl rfl rfl (Za rfl rfl (Zr S48 rfl rfl (bt.mono (Zt n al)) (Za rfl rfl (Zq rfl rfl rfl (Zb (Ze ?_))))))))))))))
  rcases ite_some m with ⟨aG, m⟩ | ⟨aG, m⟩
  ·refine W_cond_t rfl aG (W_skip (Ze (Zc (W_block (Zc (Zd (Za rfl rfl (Zp F51_3 rfl aL rfl (Za rfl rfl (Zn ((aE).f2) A48 rfl rfl rfl (Za rfl rfl (Zm (v := Vi (ar)) rfl aM ?_))))))))))))
   obtain ⟨aa, cY, m⟩ := Zg m
   refine Za rfl rfl (Exec.index_rep S48 rfl rfl rfl (bt.mono (Zt n al)) cY ?_)
   intro d5 dW ce
   refine Za rfl rfl (Zw (E := encGChange) aE A58 rfl rfl rfl ce ?_)
   intro ej cZ
   obtain ⟨bk, bl, bm, rfl, bO, bP, bQ⟩ := encGChange_val.1 cZ
   refine Za rfl rfl (Exec.alloc (cs := [Value.slice none 0 0, Value.slice none 0 0, Value.slice none 0 0, Vi (0), Value.bool (false)]) aE Z58 rfl rfl ?_)
   intro d6 e2 c3
   refine Za rfl rfl (Exec.store_box (ds := [bk, bl, bm, Vi (aa.Atom), Value.bool (aa.Add)]) (es := [bk, bl, bm, Vi (aa.Atom), Value.bool (aa.Add)]) c3 A58 rfl rfl rfl rfl (Zj (bO).one (Zj (bP).one (Zj (bQ).one (Zj rfl (Zj rfl one_nil))))) (Nat.le_of_ble_eq_true rfl) rfl ?_)
   intro e3 aF
   refine Zb (Ze (Zc (Zd (Za rfl rfl (Zp F37_0 rfl av rfl (Za rfl rfl (Zn ((aF).f2) A24 rfl rfl rfl (Za rfl rfl (Zp F58_1 rfl rfl rfl (Za rfl rfl (Zn (aF) A3 rfl rfl rfl ?_)))))))))))
   obtain ⟨aq, bG, m⟩ := Zg m
   refine Za rfl rfl (Exec.index_rep S24 rfl rfl rfl (a5.mono (Zt n al)) bG ?_)
   intro d7 dX cf
   refine Za rfl rfl (Zw (E := (encInt .i64)) aF A3 rfl rfl rfl cf ?_)
   intro ek da
   obtain rfl := encInt_val.1 da
   refine Za rfl rfl (Exec.geq rfl rfl rfl (Zb (Ze ?_)))
   obtain ⟨aJ, ag, m⟩ := Zg m
   refine W_mid (M := fun f' w' => (fun (aJ : (List GChange)) => ∃ (bT : PHeap) (aV : Value), PHeap.le bi bT ∧ St w0 bT (Res.arr (encInt .i64) 3 b ab.Ops :: Res.box u 37 [p, t, b] :: Res.box x 51 [Value.string (a.Name), Vi (a.Cost), ac, ad, ae, ah, ai] :: Res.box y 51 [Value.string (⟨#[]⟩), Vi (0), Value.slice none 0 0, Value.slice none 0 0, Value.slice none 0 0, Value.slice none 0 0, Value.slice none 0 0] :: Res.box l 51 [Value.string (a.Name), Vi (a.Cost), i, j, k, aV, Value.slice none 0 0] :: Res.arr encGChange 58 aV aJ :: H) w' ∧ f' 2 = Value.pointer (some ⟨u, 0, none⟩) ∧ f' 3 = Value.pointer (some ⟨x, 0, none⟩) ∧ f' 4 = Value.pointer (some ⟨y, 0, none⟩) ∧ f' 5 = Value.pointer (some ⟨l, 0, none⟩) ∧ f' 6 = Vi (ar)) aJ) ?_ ?_
   ·rcases ite_some ag with ⟨aH, ag⟩ | ⟨aH, ag⟩
    ·refine W_cond_t rfl aH (W_dl (n0 := 17) (qs 0 5 (qs 6 8 (.e 5 [0, 1, 6, 7, 8, 9, 10, 11, 12, 13] (.q 14 (.e 15 [0, 1] (.e 16 [] .done)))))) hmix (by kernel_rfl) (by kernel_rfl) ?_)
     have aj := aF.drew
     refine DL_q rfl rfl (Zp F51_3 rfl aw rfl ⟨rfl, ?_⟩)
     refine DL_q rfl rfl (Zn ((aj).f5) A48 rfl rfl rfl ⟨rfl, ?_⟩)
     refine DL_q rfl rfl (Exec.load_box_agg (ds := [p, t, b]) ((aj).f2) A37 rfl av rfl ⟨rfl, ?_⟩)
     refine DL_q rfl rfl (Zp F58_0 rfl rfl rfl ⟨rfl, ?_⟩)
     refine DL_q rfl rfl (Exec.load_box_agg (ds := [bk, bl, bm]) (aj) A47 rfl rfl rfl ⟨rfl, ?_⟩)
     refine DL_q rfl rfl (Zp F37_0 rfl av rfl ⟨rfl, ?_⟩)
     refine DL_q rfl rfl (Zn ((aj).f2) A24 rfl rfl rfl ⟨rfl, ?_⟩)
     refine DL_q rfl rfl (Zp F58_1 rfl rfl rfl ⟨rfl, ?_⟩)
     refine DL_q rfl rfl (Zn (aj) A3 rfl rfl rfl ⟨rfl, ?_⟩)
     refine DL_q rfl rfl (Exec.index_repE S24 rfl rfl rfl (a5.mono (Zt n al)) bG ?_)
     intro d8 dY bu cj
     refine ⟨rfl, ?_⟩
     refine DL_q rfl rfl (Zw (E := (encInt .i64)) aj A3 rfl rfl rfl bu ?_)
     intro el db
     obtain rfl := encInt_val.1 db
     refine ⟨rfl, ?_⟩
     refine DL_q rfl rfl (Zp F58_2 rfl rfl rfl ⟨rfl, ?_⟩)
     refine DL_q rfl rfl (Zn (aj) A4 rfl rfl rfl ⟨rfl, ?_⟩)
     obtain ⟨d4, dc, ag⟩ := Zg ag
     refine DL_e rfl rfl (Tc rfl rfl rfl (Zi rfl (Zi rfl args_nil)) (ref19_Map_cond_o_sim dc (aj).f1 (a5.mono (Zt n al)) (aC.mono (Zt n al)) bO bP bQ).r ?_)
     rintro _ e4 ⟨dv, a1, an, ao, bC, a7, rfl, dk, dl, dm⟩
     refine ⟨(ag_cons (ag_r rfl rfl (Zp F51_3 rfl aw rfl ⟨rfl, rfl⟩)) (ag_cons (ag_r rfl rfl (Zn ((a7).f5) A48 rfl rfl rfl ⟨rfl, rfl⟩)) (ag_cons (ag_r rfl rfl (Zp F37_0 rfl av rfl ⟨rfl, rfl⟩)) (ag_cons (ag_r rfl rfl (Zn ((a7).f2) A24 rfl rfl rfl ⟨rfl, rfl⟩)) (ag_cons (ag_r rfl rfl (Zp F58_1 rfl rfl rfl ⟨rfl, rfl⟩)) (ag_cons (ag_r rfl rfl (Zn ((a7).f1) A3 rfl rfl rfl ⟨rfl, rfl⟩)) (ag_cons (ag_r rfl rfl (Exec.index_run rfl rfl rfl cj ⟨rfl, rfl⟩)) (ag_cons (ag_r rfl rfl (Zw (E := (encInt .i64)) a7 A3 rfl rfl rfl (bu.mono bC) (fun _ q => ⟨rfl, encInt_val.1 q⟩))) (ag_cons (ag_r rfl rfl (Zp F58_2 rfl rfl rfl ⟨rfl, rfl⟩)) (ag_cons (ag_r rfl rfl (Zn ((a7).f1) A4 rfl rfl rfl ⟨rfl, rfl⟩)) ag_nil)))))))))), ?_⟩
     refine DL_q rfl rfl (Exec.build rfl (parts_cons (c := [a1, an, ao]) (cells_of rfl rfl) (parts_cons (c := [Vi (aq)]) (cells_of rfl rfl) (parts_cons (c := [Value.bool (aa.Add)]) (cells_of rfl rfl) parts_nil))) (v := Value.agg #[a1, an, ao, Vi (aq), Value.bool (aa.Add)]) (fun _ => by kernel_rfl) ⟨rfl, ?_⟩)
     refine DL_e rfl rfl (Exec.buildSlice (Te := 58) (cs := [a1, an, ao, Vi (aq), Value.bool (aa.Add)]) a7 rfl (parts_cons (c := [a1, an, ao, Vi (aq), Value.bool (aa.Add)]) (cells_of rfl rfl) parts_nil) (fun _ => by kernel_rfl) ?_)
     intro d9 e5 b2
     refine ⟨(ag_cons (ag_r rfl rfl (Zp F51_3 rfl aw rfl ⟨rfl, rfl⟩)) (ag_cons (ag_r rfl rfl (Zn ((b2).f6) A48 rfl rfl rfl ⟨rfl, rfl⟩)) ag_nil)), ?_⟩
     obtain ⟨dU, dd, ag⟩ := Zg ag
     refine DL_e rfl rfl (Exec.append_box (E := encGChange) (ys := [(⟨d4, aq, aa.Add⟩ : GChange)]) (b2).f7 S48 Z58 rfl (by decide) rfl rfl rfl rfl ⟨[a1, an, ao, Vi (aq), Value.bool (aa.Add)], [], rfl, ⟨[a1, an, ao], [Vi (aq), Value.bool (aa.Add)], rfl, ⟨[a1], [an, ao], rfl, ⟨_, rfl, dk⟩, ⟨[an], [ao], rfl, ⟨_, rfl, dl⟩, ⟨_, rfl, dm⟩⟩⟩, ⟨[Vi (aq)], [Value.bool (aa.Add)], rfl, rfl, rfl⟩⟩, rfl⟩ rfl dd ?_)
     intro bn e6 bc
     refine ⟨ag_nil, ?_⟩
     refine DL_done (Za rfl rfl (Zp F51_3 rfl aw rfl (Za rfl rfl (Exec.store_box (ds := [bn]) (es := [Value.string (a.Name), Vi (a.Cost), i, j, k, bn, Value.slice none 0 0]) (bc).f6 A48 rfl rfl rfl (cells_one (((bc).f6).f1).arr_one) (Zj (((bc).f6).f1).arr_one one_nil) (Nat.le_of_ble_eq_true rfl) rfl ?_))))
     intro e7 c4
     refine Zb (Ze ?_)
     have dE := Zu ag
     subst aJ
     exact ⟨dv, bn, bC, ((((((((c4).f3).drop).f1).f1).f5).f5).f5).f5, av, aL, bg, aw, aM⟩
    refine W_cond_f rfl aH ?_
    replace aH := Zk aH
    refine W_skip (Ze ?_)
    have dF := Zu ag
    subst aJ
    exact ⟨bi, aS, (Zv _), (((((((aF).drop).f5).f5).f5).f5).f5).f5, av, aL, bg, aw, aM⟩
   intro dO e8 cr
   obtain ⟨dw, aV, cJ, c5, cO, cP, cQ, cR, cS⟩ := cr
   refine (ib_normal (Ze (Zd (Za rfl rfl (Zm (v := Vi (ar)) rfl cS (Za rfl rfl (Exec.add rfl rfl rfl (Za rfl rfl (Zo (v := Vi (IntKind.i64.wrap (ar + 1))) rfl rfl (Zb (Ze ?_)))))))))))
   have dG := Zu m
   subst bz
   refine ⟨_, rfl, ?_⟩; exact ⟨dw, aV, (Zt al cJ), ((((((c5).f5).f5).f5).f5).f5).f5, cO, cP, cQ, cR, rfl⟩
  refine W_cond_f rfl aG ?_
  replace aG := Zk aG
  refine W_exit (at_exit (at_exit (ib_here (Ze ?_))))
  have dH := Zu m
  subst bz
  refine ⟨_, .inr (cF (by intro _ h; cases h)), ?_⟩; exact ⟨bi, aS, al, ((((((aE).f5).f5).f5).f5).f5).f5, av, aL, bg, aw, aM⟩
 rintro dP e9 ⟨d1, b5, ct⟩
 have hm := b5.elim (cD _) (cB _)
 clear b5
 obtain ⟨bA, aX⟩ := d1
 replace hm := un2_eq hm
 obtain ⟨bj, z, o, c6, cT, cU, cV, cW, ec⟩ := ct
 refine (Ze (Zc (Zc (Zd (Za rfl rfl (Zo (v := Vi (0)) rfl rfl (Zb (Ze ?_))))))))
 obtain ⟨b0, cn, dT, cE, cC⟩ := ctl_some hm
 refine W_mid (M := fun f' w' => ∃ s', (b0 = .next s' ∨ b0 = .brk s') ∧ (un2 fun (bB : Int) (cc : (List GAssign)) => ∃ (bU : PHeap) (a2 : Value), PHeap.le bj bU ∧ St w0 bU (Res.arr (encInt .i64) 3 b ab.Ops :: Res.box u 37 [p, t, b] :: Res.box x 51 [Value.string (a.Name), Vi (a.Cost), ac, ad, ae, ah, ai] :: Res.box y 51 [Value.string (⟨#[]⟩), Vi (0), Value.slice none 0 0, Value.slice none 0 0, Value.slice none 0 0, Value.slice none 0 0, Value.slice none 0 0] :: Res.box l 51 [Value.string (a.Name), Vi (a.Cost), i, j, k, z, a2] :: Res.arr encGChange 58 z aX :: Res.arr encGAssign 84 a2 cc :: H) w' ∧ f' 2 = Value.pointer (some ⟨u, 0, none⟩) ∧ f' 3 = Value.pointer (some ⟨x, 0, none⟩) ∧ f' 4 = Value.pointer (some ⟨y, 0, none⟩) ∧ f' 5 = Value.pointer (some ⟨l, 0, none⟩) ∧ f' 8 = Vi (bB)) s') ?_ ?_
 ·refine W_block (W_while (fun s' f' w' => (un2 fun (ak : Int) (cd : (List GAssign)) => ∃ (bV : PHeap) (aW : Value), PHeap.le bj bV ∧ St w0 bV (Res.arr (encInt .i64) 3 b ab.Ops :: Res.box u 37 [p, t, b] :: Res.box x 51 [Value.string (a.Name), Vi (a.Cost), ac, ad, ae, ah, ai] :: Res.box y 51 [Value.string (⟨#[]⟩), Vi (0), Value.slice none 0 0, Value.slice none 0 0, Value.slice none 0 0, Value.slice none 0 0, Value.slice none 0 0] :: Res.box l 51 [Value.string (a.Name), Vi (a.Cost), i, j, k, z, aW] :: Res.arr encGChange 58 z aX :: Res.arr encGAssign 84 aW cd :: H) w' ∧ f' 2 = Value.pointer (some ⟨u, 0, none⟩) ∧ f' 3 = Value.pointer (some ⟨x, 0, none⟩) ∧ f' 4 = Value.pointer (some ⟨y, 0, none⟩) ∧ f' 5 = Value.pointer (some ⟨l, 0, none⟩) ∧ f' 8 = Vi (ak)) s') cn ?_ ?_)
  ·have c7 := c6.nilArr encGAssign 84
   exact ⟨bj, (Value.slice none 0 0), (Zv _), ((((((c7).f6).f6).f6).f6).f6).f6, cT, cU, cV, cW, rfl⟩
  intro d2 b1 dQ eA cp g cG
  obtain ⟨ak, cd⟩ := d2
  replace g := un2_eq g
  obtain ⟨dx, aW, am, bd, aN, a9, bD, aA, aB⟩ := cp
  refine Zc (Zc (Zd (Za rfl rfl (Zm (v := Vi (ak)) rfl aB (Za rfl rfl (Zp F51_4 rfl a9 rfl (Za rfl rfl (Zn ((bd).f2) A49 rfl rfl rfl (Za rfl rfl (Zr S49 rfl rfl (aY.mono (Zt (Zt n o) am)) (Za rfl rfl (Zq rfl rfl rfl (Zb (Ze ?_))))))))))))))
  rcases ite_some g with ⟨aI, g⟩ | ⟨aI, g⟩
  ·refine W_cond_t rfl aI (W_skip (Ze (Zc (W_block (W_dl (n0 := 23) (qs 0 19 (.e 19 [0, 1, 2, 3, 4, 5, 6, 7, 8, 9, 10, 11] (.q 20 (.e 21 [0, 1] (.e 22 [] .done))))) hmix (by kernel_rfl) (by kernel_rfl) ?_)))))
   have af := bd.drew
   refine DL_q rfl rfl (Zp F51_4 rfl aA rfl ⟨rfl, ?_⟩)
   refine DL_q rfl rfl (Zn ((af).f4) A49 rfl rfl rfl ⟨rfl, ?_⟩)
   refine DL_q rfl rfl (Zp F37_1 rfl aN rfl ⟨rfl, ?_⟩)
   refine DL_q rfl rfl (Zn ((af).f1) A24 rfl rfl rfl ⟨rfl, ?_⟩)
   refine DL_q rfl rfl (Zp F51_4 rfl a9 rfl ⟨rfl, ?_⟩)
   refine DL_q rfl rfl (Zn ((af).f2) A49 rfl rfl rfl ⟨rfl, ?_⟩)
   refine DL_q rfl rfl (Zm (v := Vi (ak)) rfl aB ⟨rfl, ?_⟩)
   obtain ⟨eH, bH, g⟩ := Zg g
   refine DL_q rfl rfl (Exec.index_repE S49 rfl rfl rfl (aY.mono (Zt (Zt n o) am)) bH ?_)
   intro dA dZ bv ck
   refine ⟨rfl, ?_⟩
   refine DL_q rfl rfl (Zp F84_0 rfl rfl rfl ⟨rfl, ?_⟩)
   refine DL_q rfl rfl (Zw (E := (encInt .i64)) af A3 rfl rfl rfl (bv.sub (Sub.iso (Sub.fst (Sub.refl _))) rfl) ?_)
   intro em de
   obtain rfl := encInt_val.1 de
   refine ⟨rfl, ?_⟩
   obtain ⟨a3, df, g⟩ := Zg g
   refine DL_q rfl rfl (Exec.index_repE S24 rfl rfl rfl (aC.mono (Zt (Zt n o) am)) df ?_)
   intro dB ea bw cl
   refine ⟨rfl, ?_⟩
   refine DL_q rfl rfl (Zw (E := (encInt .i64)) af A3 rfl rfl rfl bw ?_)
   intro en dg
   obtain rfl := encInt_val.1 dg
   refine ⟨rfl, ?_⟩
   refine DL_q rfl rfl (Exec.load_box_agg (ds := [p, t, b]) ((af).f1) A37 rfl aN rfl ⟨rfl, ?_⟩)
   refine DL_q rfl rfl (Zp F51_4 rfl a9 rfl ⟨rfl, ?_⟩)
   refine DL_q rfl rfl (Zn ((af).f2) A49 rfl rfl rfl ⟨rfl, ?_⟩)
   refine DL_q rfl rfl (Zm (v := Vi (ak)) rfl aB ⟨rfl, ?_⟩)
   refine DL_q rfl rfl (Exec.index_repE S49 rfl rfl rfl (aY.mono (Zt (Zt n o) am)) bH ?_)
   intro dC eb cg dI
   refine ⟨rfl, ?_⟩
   refine DL_q rfl rfl (Zp F84_1 rfl rfl rfl ⟨rfl, ?_⟩)
   refine DL_q rfl rfl (Zw (E := encGExpr) af A82 rfl rfl rfl (cg.sub (Sub.iso (Sub.snd (Sub.refl _) rfl)) rfl) ?_)
   intro eo dh
   obtain ⟨ei, rfl, dn⟩ := encGExpr_val.1 dh
   refine ⟨rfl, ?_⟩
   obtain ⟨d, di, g⟩ := Zg g
   refine DL_e rfl rfl (Tc rfl rfl rfl (Zi rfl (Zi rfl args_nil)) (ref19_Map_expr_o_sim di af (a5.mono (Zt (Zt n o) am)) (aC.mono (Zt (Zt n o) am)) dn).r ?_)
   rintro _ eB ⟨dy, ap, bf, a8, rfl, dp⟩
   refine ⟨(ag_cons (ag_r rfl rfl (Zp F51_4 rfl aA rfl ⟨rfl, rfl⟩)) (ag_cons (ag_r rfl rfl (Zn ((a8).f4) A49 rfl rfl rfl ⟨rfl, rfl⟩)) (ag_cons (ag_r rfl rfl (Zp F37_1 rfl aN rfl ⟨rfl, rfl⟩)) (ag_cons (ag_r rfl rfl (Zn ((a8).f1) A24 rfl rfl rfl ⟨rfl, rfl⟩)) (ag_cons (ag_r rfl rfl (Zp F51_4 rfl a9 rfl ⟨rfl, rfl⟩)) (ag_cons (ag_r rfl rfl (Zn ((a8).f2) A49 rfl rfl rfl ⟨rfl, rfl⟩)) (ag_cons (ag_r rfl rfl (Zm (v := Vi (ak)) rfl aB ⟨rfl, rfl⟩)) (ag_cons (ag_r rfl rfl (Exec.index_run rfl rfl rfl ck ⟨rfl, rfl⟩)) (ag_cons (ag_r rfl rfl (Zp F84_0 rfl rfl rfl ⟨rfl, rfl⟩)) (ag_cons (ag_r rfl rfl (Zw (E := (encInt .i64)) a8 A3 rfl rfl rfl ((bv.sub (Sub.iso (Sub.fst (Sub.refl _))) rfl).mono bf) (fun _ q => ⟨rfl, encInt_val.1 q⟩))) (ag_cons (ag_r rfl rfl (Exec.index_run rfl rfl rfl cl ⟨rfl, rfl⟩)) (ag_cons (ag_r rfl rfl (Zw (E := (encInt .i64)) a8 A3 rfl rfl rfl (bw.mono bf) (fun _ q => ⟨rfl, encInt_val.1 q⟩))) ag_nil)))))))))))), ?_⟩
   refine DL_q rfl rfl (Exec.build rfl (parts_cons (c := [Vi (a3)]) (cells_of rfl rfl) (parts_cons (c := [Value.string (d.Op), Vi (d.N), ap]) (cells_of rfl rfl) parts_nil)) (v := Value.agg #[Vi (a3), Value.string (d.Op), Vi (d.N), ap]) (fun _ => by kernel_rfl) ⟨rfl, ?_⟩)
   refine DL_e rfl rfl (Exec.buildSlice (Te := 84) (cs := [Vi (a3), Value.string (d.Op), Vi (d.N), ap]) a8 rfl (parts_cons (c := [Vi (a3), Value.string (d.Op), Vi (d.N), ap]) (cells_of rfl rfl) parts_nil) (fun _ => by kernel_rfl) ?_)
   intro dD eC b3
   refine ⟨(ag_cons (ag_r rfl rfl (Zp F51_4 rfl aA rfl ⟨rfl, rfl⟩)) (ag_cons (ag_r rfl rfl (Zn ((b3).f5) A49 rfl rfl rfl ⟨rfl, rfl⟩)) ag_nil)), ?_⟩
   obtain ⟨dV, dj, g⟩ := Zg g
   refine DL_e rfl rfl (Exec.append_box (E := encGAssign) (ys := [(⟨a3, d⟩ : GAssign)]) (b3).f7 S49 Z84 rfl (by decide) rfl rfl rfl rfl ⟨[Vi (a3), Value.string (d.Op), Vi (d.N), ap], [], rfl, ⟨[Vi (a3)], [Value.string (d.Op), Vi (d.N), ap], rfl, rfl, ((encGExpr_iff _ _ _).2 ⟨[Value.string (d.Op)], [Vi (d.N), ap], rfl, rfl, ⟨[Vi (d.N)], [ap], rfl, rfl, ⟨_, rfl, dp⟩⟩⟩)⟩, rfl⟩ rfl dj ?_)
   intro bo eD be
   refine ⟨ag_nil, ?_⟩
   refine DL_done (Za rfl rfl (Zp F51_4 rfl aA rfl (Za rfl rfl (Exec.store_box (ds := [bo]) (es := [Value.string (a.Name), Vi (a.Cost), i, j, k, z, bo]) (be).f5 A49 rfl rfl rfl (cells_one (((be).f5).f1).arr_one) (Zj (((be).f5).f1).arr_one one_nil) (Nat.le_of_ble_eq_true rfl) rfl ?_))))
   intro eE c8
   refine Zb (ib_normal (Ze (Zd (Za rfl rfl (Zm (v := Vi (ak)) rfl aB (Za rfl rfl (Exec.add rfl rfl rfl (Za rfl rfl (Zo (v := Vi (IntKind.i64.wrap (ak + 1))) rfl rfl (Zb (Ze ?_)))))))))))
   have dJ := Zu g
   subst b1
   refine ⟨_, rfl, ?_⟩; exact ⟨dy, bo, (Zt am bf), (((((((c8).f1).f6).f2).f6).f6).f6).f6, aN, a9, bD, aA, rfl⟩
  refine W_cond_f rfl aI ?_
  replace aI := Zk aI
  refine W_exit (at_exit (at_exit (ib_here (Ze ?_))))
  have dK := Zu g
  subst b1
  refine ⟨_, .inr (cG (by intro _ h; cases h)), ?_⟩; exact ⟨dx, aW, am, (((((((bd).f6).f6).f6).f6).f6).f6).f6, aN, a9, bD, aA, aB⟩
 rintro dR eF ⟨d3, b6, cu⟩
 have hm := b6.elim (cE _) (cC _)
 clear b6
 obtain ⟨bB, cc⟩ := d3
 replace hm := un2_eq hm
 obtain ⟨eg, a2, au, aT, ed, ee, bE, cX, ef⟩ := cu
 refine (Ze (Zc (Zd (Za rfl rfl (Exec.load_box_agg (ds := [Value.string (a.Name), Vi (a.Cost), i, j, k, z, a2]) ((aT).f4) A51 rfl cX rfl (Za rfl rfl (Exec.store_box (ds := [Value.string (a.Name), Vi (a.Cost), i, j, k, z, a2]) (es := [Value.string (a.Name), Vi (a.Cost), i, j, k, z, a2]) (aT).f3 A51 rfl bE rfl rfl (Zj rfl (Zj rfl (Zj ((b7.mono (Zt o au))).one (Zj ((b8.mono (Zt o au))).one (Zj ((b9.mono (Zt o au))).one (Zj (((aT).f3).f5).arr_one (Zj (((aT).f3).f6).arr_one one_nil))))))) (Nat.le_of_ble_eq_true rfl) rfl ?_)))))))
 intro eG b4
 refine Zb (Ze (W_ret ?_))
 have dL := Zu hm
 subst r
 refine ⟨_, retG1 rfl ⟨_, _, bE, cellRes (b4) A51⟩, ?_⟩
 obtain ⟨eh, aU, c9, dq⟩ := (b4).f5.freezeArr
 obtain ⟨dz, aK, cA, dr⟩ := (c9).f5.freezeArr
 exact ⟨dz, i, j, k, z, a2, (Zt (Zt (Zt (Zt n o) au) aU) aK), (((((((cA).drop).f1).drop).f1).drop).f1).drop, rfl, (b7.mono (Zt (Zt (Zt o au) aU) aK)), (b8.mono (Zt (Zt (Zt o au) aU) aK)), (b9.mono (Zt (Zt (Zt o au) aU) aK)), (dq.mono aK), dr⟩
theorem ref19_beaten_o_sim {w0 w : World} {s : PHeap} {H : List Res} {fu : Nat} {ay : Ground} {aM : ref19_Marks} {ab : ref19_Map} {l : Int} {am : Value} {an : Value} {ao : Value} {ap : Value} {aq : Value} {ad : Value} {ae : Value} {t : Value} {u : Value} {j : Value} {r : Bool} (hm : ref19_beaten_o_p fu ay aM ab l = some r) (hS : St w0 s (Res.arr (encInt .i64) 3 j ab.Ops :: H) w) (cW : SliceRep encAtom s am ay.Atoms) (cX : SliceRep encGFluent s an ay.Fluents) (cY : SliceRep (encInt .i64) s ao ay.Init) (cZ : SliceRep encCond s ap ay.Goal) (ax : SliceRep encGOp s aq ay.Ops) (b9 : SliceRep encBool s ad aM.Atoms) (bA : SliceRep encBool s ae aM.Fluents) (aK : SliceRep (encInt .i64) s t ab.Atoms) (aL : SliceRep (encInt .i64) s u ab.Fluents) :
  Calls Try.prog 43 #[Value.agg #[am, an, ao, ap, aq], Value.agg #[ad, ae], Value.agg #[t, u, j], Vi (l)] w fun e w' => ∃ v, e = .returned v ∧ ((fun (cU : Bool) => ∃ (b2 : PHeap) , PHeap.le s b2 ∧ St w0 b2 (Res.arr (encInt .i64) 3 j ab.Ops :: H) w' ∧ v = Value.bool (cU)) r) := by
 unfold ref19_beaten_o_p at hm
 refine calls_of_W Try.func43 rfl rfl (Zc (Zd (Za rfl rfl (Exec.box (cs := [am, an, ao, ap, aq]) hS rfl rfl rfl ?_))))
 intro x ed bQ
 refine Za rfl rfl (Exec.box (cs := [ad, ae]) bQ rfl rfl rfl ?_)
 intro y ee bR
 refine Za rfl rfl (Exec.box (cs := [t, u, j]) bR rfl rfl rfl ?_)
 intro z ef a6
 refine Za rfl rfl (Zo (v := Value.bool (false)) rfl rfl (Zb (Ze (Zc ?_))))
 obtain ⟨ew, c1, hm⟩ := Zg hm
 obtain ⟨a, bj, hm⟩ := Zg hm
 refine W_mid (M := fun f' w' => ∃ (aw : PHeap) (af : Value) (ag : Value) (ah : Value) (ai : Value) (aj : Value) (n : Nat), PHeap.le s aw ∧ St w0 aw (Res.arr (encInt .i64) 3 j ab.Ops :: Res.box x 28 [am, an, ao, ap, aq] :: Res.box y 64 [ad, ae] :: Res.box z 37 [t, u, j] :: Res.box n 51 [Value.string (a.Name), Vi (a.Cost), af, ag, ah, ai, aj] :: H) w' ∧ f' 3 = Vi (l) ∧ f' 4 = Value.pointer (some ⟨x, 0, none⟩) ∧ f' 5 = Value.pointer (some ⟨y, 0, none⟩) ∧ f' 6 = Value.pointer (some ⟨z, 0, none⟩) ∧ f' 9 = Value.pointer (some ⟨n, 0, none⟩) ∧ SliceRep (encInt .i64) aw af a.Pre.Pos ∧ SliceRep (encInt .i64) aw ag a.Pre.Neg ∧ SliceRep encGTest aw ah a.Pre.Tests ∧ SliceRep encGChange aw ai a.Changes ∧ SliceRep encGAssign aw aj a.Assigns) ?_ ?_
 ·refine W_dl (n0 := 8) (qs 0 6 (.alt (.e 6 [] (.e 7 [] .done)) (.e 7 [0, 1, 2, 3, 4, 5] (.e 6 [] .done)))) hmix (by kernel_rfl) (by kernel_rfl) (DL_q rfl rfl (Exec.load_box_agg (ds := [t, u, j]) (a6.drew) A37 rfl rfl rfl ⟨rfl, ?_⟩))
  refine DL_q rfl rfl (Zp F28_4 rfl rfl rfl ⟨rfl, ?_⟩)
  refine DL_q rfl rfl (Zn ((a6.drew).f2) A26 rfl rfl rfl ⟨rfl, ?_⟩)
  refine DL_q rfl rfl (Zm (v := Vi (l)) rfl rfl ⟨rfl, ?_⟩)
  refine DL_q rfl rfl (Exec.index_repE S26 rfl rfl rfl ax c1 ?_)
  intro da d2 bB bI
  refine ⟨rfl, ?_⟩
  refine DL_q rfl rfl (Exec.load_atR (E := encGOp) a6.drew A51 rfl rfl rfl bB ?_)
  intro dT c2 bJ
  obtain ⟨dE, dF, dG, dH, dI, rfl, bm, bn, bo, bp, bq⟩ := encGOp_val.1 c2
  refine ⟨rfl, ?_⟩
  refine DL_alt ?_ ?_
  ·have bS := (a6.drew).f3
   refine DL_e rfl rfl (Tc rfl rfl rfl (Zi rfl (Zi rfl args_nil)) (ref19_Map_operator_o_sim bj bS aK aL bm bn bo bp bq).r ?_)
   rintro _ eg ⟨cP, aP, aQ, aR, aS, aT, cl, bT, rfl, br, bs, bt, bu, bv⟩
   refine ⟨ag_nil, ?_⟩
   refine DL_e rfl rfl (Exec.alloc (cs := [Value.string (⟨#[]⟩), Vi (0), Value.slice none 0 0, Value.slice none 0 0, Value.slice none 0 0, Value.slice none 0 0, Value.slice none 0 0]) bT Z51 rfl rfl ?_)
   intro bG eh bU
   refine ⟨ag_nil, ?_⟩
   refine DL_done (Za rfl rfl (Exec.store_box (ds := [Value.string (a.Name), Vi (a.Cost), aP, aQ, aR, aS, aT]) (es := [Value.string (a.Name), Vi (a.Cost), aP, aQ, aR, aS, aT]) bU A51 rfl rfl rfl rfl (Zj rfl (Zj rfl (Zj (br).one (Zj (bs).one (Zj (bt).one (Zj (bu).one (Zj (bv).one one_nil))))))) (Nat.le_of_ble_eq_true rfl) rfl ?_))
   intro ei bV
   refine Zb (Ze ?_)
   exact ⟨cP, aP, aQ, aR, aS, aT, bG, cl, ((((bV).f2).f3).f4).f4, rfl, rfl, rfl, rfl, rfl, br, bs, bt, bu, bv⟩
  refine DL_e rfl rfl (Exec.alloc (cs := [Value.string (⟨#[]⟩), Vi (0), Value.slice none 0 0, Value.slice none 0 0, Value.slice none 0 0, Value.slice none 0 0, Value.slice none 0 0]) a6.drew Z51 rfl rfl ?_)
  intro bH ej aH
  refine ⟨(ag_cons (ag_r rfl rfl (Exec.load_box_agg (ds := [t, u, j]) ((aH).f1) A37 rfl rfl rfl ⟨rfl, rfl⟩)) (ag_cons (ag_r rfl rfl (Zp F28_4 rfl rfl rfl ⟨rfl, rfl⟩)) (ag_cons (ag_r rfl rfl (Zn ((aH).f3) A26 rfl rfl rfl ⟨rfl, rfl⟩)) (ag_cons (ag_r rfl rfl (Zm (v := Vi (l)) rfl rfl ⟨rfl, rfl⟩)) (ag_cons (ag_r rfl rfl (Exec.index_run rfl rfl rfl bI ⟨rfl, rfl⟩)) (ag_cons (ag_r rfl rfl (Exec.load_run rfl rfl (bJ (Zv _) aH) ⟨rfl, rfl⟩)) ag_nil)))))), ?_⟩
  refine DL_e rfl rfl (Tc rfl rfl rfl (Zi rfl (Zi rfl args_nil)) (ref19_Map_operator_o_sim bj (aH).f4 aK aL bm bn bo bp bq).r ?_)
  rintro _ ek ⟨cQ, aU, aV, aW, aX, aY, cm, bW, rfl, bw, bx, bz, b0, b1⟩
  refine ⟨ag_nil, ?_⟩
  refine DL_done (Za rfl rfl (Exec.store_box (ds := [Value.string (a.Name), Vi (a.Cost), aU, aV, aW, aX, aY]) (es := [Value.string (a.Name), Vi (a.Cost), aU, aV, aW, aX, aY]) (bW).f1 A51 rfl rfl rfl rfl (Zj rfl (Zj rfl (Zj (bw).one (Zj (bx).one (Zj (bz).one (Zj (b0).one (Zj (b1).one one_nil))))))) (Nat.le_of_ble_eq_true rfl) rfl ?_))
  intro el bX
  refine Zb (Ze ?_)
  exact ⟨cQ, aU, aV, aW, aX, aY, bH, cm, ((((bX).f2).f3).f4).f4, rfl, rfl, rfl, rfl, rfl, bw, bx, bz, b0, b1⟩
 intro dx em bM
 obtain ⟨aN, af, ag, ah, ai, aj, n, p, bY, cp, cq, cr, ct, cu, cg, ch, ci, cj, ck⟩ := bM
 refine (Ze (Zc (Zc (Zd (Za rfl rfl (Zo (v := Vi (0)) rfl rfl (Zb (Ze ?_))))))))
 obtain ⟨aZ, bK, cf, cd, cc⟩ := ctl_some hm
 refine W_mid (M := fun f' w' => ∃ s', (aZ = .next s' ∨ aZ = .brk s') ∧ (fun (bf : Int) => ∃ (b3 : PHeap) , PHeap.le aN b3 ∧ St w0 b3 (Res.arr (encInt .i64) 3 j ab.Ops :: Res.box x 28 [am, an, ao, ap, aq] :: Res.box y 64 [ad, ae] :: Res.box z 37 [t, u, j] :: Res.box n 51 [Value.string (a.Name), Vi (a.Cost), af, ag, ah, ai, aj] :: H) w' ∧ f' 3 = Vi (l) ∧ f' 4 = Value.pointer (some ⟨x, 0, none⟩) ∧ f' 5 = Value.pointer (some ⟨y, 0, none⟩) ∧ f' 6 = Value.pointer (some ⟨z, 0, none⟩) ∧ f' 9 = Value.pointer (some ⟨n, 0, none⟩) ∧ f' 10 = Vi (bf)) s') ?_ ?_
 ·refine W_block (W_while (fun s' f' w' => (fun (c : Int) => ∃ (b4 : PHeap) , PHeap.le aN b4 ∧ St w0 b4 (Res.arr (encInt .i64) 3 j ab.Ops :: Res.box x 28 [am, an, ao, ap, aq] :: Res.box y 64 [ad, ae] :: Res.box z 37 [t, u, j] :: Res.box n 51 [Value.string (a.Name), Vi (a.Cost), af, ag, ah, ai, aj] :: H) w' ∧ f' 3 = Vi (l) ∧ f' 4 = Value.pointer (some ⟨x, 0, none⟩) ∧ f' 5 = Value.pointer (some ⟨y, 0, none⟩) ∧ f' 6 = Value.pointer (some ⟨z, 0, none⟩) ∧ f' 9 = Value.pointer (some ⟨n, 0, none⟩) ∧ f' 10 = Vi (c)) s') bK ?_ ?_)
  ·have bZ := (bY).f4
   exact ⟨aN, (Zv _), ((((bZ).f4).f4).f4).f4, cp, cq, cr, ct, cu, rfl⟩
  intro c aG dy en bL g be
  obtain ⟨aO, d, ar, aB, au, aC, aD, a1, al⟩ := bL
  refine Zc (Zc (Zd (Za rfl rfl (Zm (v := Vi (c)) rfl al (Za rfl rfl (Zp F28_4 rfl au rfl (Za rfl rfl (Zn ((ar).f1) A26 rfl rfl rfl (Za rfl rfl (Zr S26 rfl rfl (ax.mono (Zt p d)) (Za rfl rfl (Zq rfl rfl rfl (Zb (Ze ?_))))))))))))))
  rcases ite_some g with ⟨a7, g⟩ | ⟨a7, g⟩
  ·refine W_cond_t rfl a7 (W_skip (Ze (Zc (W_block (Zc (Zc ?_))))))
   obtain ⟨a4, i, g⟩ := Zg g
   refine W_mid (M := fun f' w' => (fun (a4 : Bool) => ∃ (b5 : PHeap) , PHeap.le aO b5 ∧ St w0 b5 (Res.arr (encInt .i64) 3 j ab.Ops :: Res.box x 28 [am, an, ao, ap, aq] :: Res.box y 64 [ad, ae] :: Res.box z 37 [t, u, j] :: Res.box n 51 [Value.string (a.Name), Vi (a.Cost), af, ag, ah, ai, aj] :: H) w' ∧ f' 3 = Vi (l) ∧ f' 4 = Value.pointer (some ⟨x, 0, none⟩) ∧ f' 5 = Value.pointer (some ⟨y, 0, none⟩) ∧ f' 6 = Value.pointer (some ⟨z, 0, none⟩) ∧ f' 9 = Value.pointer (some ⟨n, 0, none⟩) ∧ f' 10 = Vi (c) ∧ f' 49 = Value.bool (a4)) a4) ?_ ?_
   ·refine W_dl (n0 := 25) (qs 0 10 (.e 10 [] (qs 11 9 (.q 21 (.e 20 [21] (.e 22 [] (.q 23 (.q 24 .done)))))))) hmix (by kernel_rfl) (by kernel_rfl) (DL_q rfl rfl (Zm (v := Vi (c)) rfl al ⟨rfl, ?_⟩))
    refine DL_q rfl rfl (Zm (v := Vi (l)) rfl aB ⟨rfl, ?_⟩)
    refine DL_q rfl rfl (Exec.eql rfl rfl rfl ⟨rfl, ?_⟩)
    refine DL_q rfl rfl (Zm (v := Value.bool (decide (c = l))) rfl rfl ⟨rfl, ?_⟩)
    rcases ite_some i with ⟨m, i⟩ | ⟨m, i⟩
    ·refine DL_passes 21 (by rw [m]; rfl) ?_
     refine DL_done (Zb (Ze ?_))
     have df := Zu i
     subst a4
     exact ⟨aO, (Zv _), (((((ar.drew).f4).f4).f4).f4).f4, aB, au, aC, aD, a1, al, rfl⟩
    replace m := Zk m
    refine DL_qg rfl rfl (Zf rfl (Zx m)) (Exec.load_box_agg (ds := [ad, ae]) ((ar.drew).f2) A64 rfl aC rfl ⟨rfl, ?_⟩)
    refine DL_qg rfl rfl (Zf rfl (Zx m)) (Zp F28_4 rfl au rfl ⟨rfl, ?_⟩)
    refine DL_qg rfl rfl (Zf rfl (Zx m)) (Zn ((ar.drew).f1) A26 rfl rfl rfl ⟨rfl, ?_⟩)
    refine DL_qg rfl rfl (Zf rfl (Zx m)) (Zm (v := Vi (c)) rfl al ⟨rfl, ?_⟩)
    obtain ⟨ex, bk, i⟩ := Zg i
    refine DL_qg rfl rfl (Zf rfl (Zx m)) (Exec.index_repE S26 rfl rfl rfl (ax.mono (Zt p d)) bk ?_)
    intro db d3 bC dg
    refine ⟨rfl, ?_⟩
    refine DL_qg rfl rfl (Zf rfl (Zx m)) (Zw (E := encGOp) ar.drew A51 rfl rfl rfl bC ?_)
    intro dU c3
    obtain ⟨dJ, dK, dL, dM, dN, rfl, cA, cB, cC, cD, cE⟩ := encGOp_val.1 c3
    refine ⟨rfl, ?_⟩
    obtain ⟨ey, c4, i⟩ := Zg i
    refine DL_eg rfl rfl (Zf rfl (Zx m)) (Tc rfl rfl rfl (Zi rfl (Zi rfl args_nil)) (ref19_Marks_Touches_sim c4 ar.drew (b9.mono (Zt p d)) (bA.mono (Zt p d)) cA cB cC cD cE).r ?_)
    rintro _ eo ⟨cR, aa, az, rfl⟩
    refine ⟨ag_nil, ?_⟩
    refine DL_qg rfl rfl (Zf rfl (Zx m)) (Exec.not rfl rfl ⟨rfl, ?_⟩)
    refine DL_passes 2 (by rw [m]; rfl) ?_
    rcases ite_some i with ⟨k, i⟩ | ⟨k, i⟩
    ·refine DL_passes 11 (by rw [k]; rfl) ?_
     refine DL_done (Zb (Ze ?_))
     have dh := Zu i
     subst a4
     exact ⟨cR, aa, (((((az).f4).f4).f4).f4).f4, aB, au, aC, aD, a1, al, rfl⟩
    replace k := Zk k
    refine DL_qg rfl rfl (Zf rfl (Zx k)) (Exec.load_box_agg (ds := [t, u, j]) ((az).f3) A37 rfl aD rfl ⟨rfl, ?_⟩)
    refine DL_qg rfl rfl (Zf rfl (Zx k)) (Zp F28_4 rfl au rfl ⟨rfl, ?_⟩)
    refine DL_qg rfl rfl (Zf rfl (Zx k)) (Zn ((az).f1) A26 rfl rfl rfl ⟨rfl, ?_⟩)
    refine DL_qg rfl rfl (Zf rfl (Zx k)) (Zm (v := Vi (c)) rfl al ⟨rfl, ?_⟩)
    refine DL_qg rfl rfl (Zf rfl (Zx k)) (Exec.index_repE S26 rfl rfl rfl (ax.mono (Zt (Zt p d) aa)) bk ?_)
    intro dc d4 bD di
    refine ⟨rfl, ?_⟩
    refine DL_qg rfl rfl (Zf rfl (Zx k)) (Zw (E := encGOp) az A51 rfl rfl rfl bD ?_)
    intro dV c5
    obtain ⟨dO, dP, dQ, dR, dS, rfl, cF, cG, cH, cI, cJ⟩ := encGOp_val.1 c5
    refine ⟨rfl, ?_⟩
    refine DL_qg rfl rfl (Zf rfl (Zx k)) (Exec.load_box_agg (ds := [Value.string (a.Name), Vi (a.Cost), af, ag, ah, ai, aj]) ((az).f4) A51 rfl a1 rfl ⟨rfl, ?_⟩)
    obtain ⟨ez, c6, i⟩ := Zg i
    refine DL_eg rfl rfl (Zf rfl (Zx k)) (Tc rfl rfl rfl (Zi rfl (Zi rfl args_nil)) (ref19_Map_operator_o_sim c6 az (aK.mono (Zt (Zt p d) aa)) (aL.mono (Zt (Zt p d) aa)) cF cG cH cI cJ).r ?_)
    rintro _ ep ⟨dD, dW, dX, dY, dZ, ea, a0, ba, rfl, cK, cL, cM, cN, cO⟩
    refine ⟨(ag_cons (ag_g rfl rfl (Zf rfl (Zx k)) (Exec.load_box_agg (ds := [Value.string (a.Name), Vi (a.Cost), af, ag, ah, ai, aj]) ((ba).f4) A51 rfl a1 rfl ⟨rfl, rfl⟩)) ag_nil), ?_⟩
    obtain ⟨cV, c7, i⟩ := Zg i
    refine DL_eg rfl rfl (Zf rfl (Zx k)) (Tc rfl rfl rfl (Zi rfl (Zi rfl args_nil)) (ref18_SameOp_sim c7 ba cK cL cM cN cO (cg.mono (Zt (Zt d aa) a0)) (ch.mono (Zt (Zt d aa) a0)) (ci.mono (Zt (Zt d aa) a0)) (cj.mono (Zt (Zt d aa) a0)) (ck.mono (Zt (Zt d aa) a0))).r ?_)
    rintro _ er ⟨cS, cn, ca, rfl⟩
    refine ⟨ag_nil, ?_⟩
    refine DL_qg rfl rfl (Zf rfl (Zx k)) (Exec.not rfl rfl ⟨rfl, ?_⟩)
    refine DL_q rfl rfl (Exec.pick_f (v := Value.bool (!cV)) rfl (Zx k) rfl ⟨rfl, ?_⟩)
    refine DL_done (Zb (Ze ?_))
    have dj := Zu i
    subst a4
    exact ⟨cS, (Zt (Zt aa a0) cn), (((((ca).f4).f4).f4).f4).f4, aB, au, aC, aD, a1, al, rfl⟩
   intro dz et bN
   obtain ⟨aF, aA, bb, aE, a2, aI, aJ, a3, av, bh⟩ := bN
   refine (Ze ?_)
   rcases ite_some g with ⟨a8, g⟩ | ⟨a8, g⟩
   ·refine W_cond_t bh a8 (W_exit (at_exit (ib_here (Ze (Zd (Za rfl rfl (Zm (v := Vi (c)) rfl av (Za rfl rfl (Exec.add rfl rfl rfl (Za rfl rfl (Zo (v := Vi (IntKind.i64.wrap (c + 1))) rfl rfl (Zb (Ze ?_)))))))))))))
    have dk := Zu g
    subst aG
    refine ⟨_, rfl, ?_⟩; exact ⟨aF, (Zt d aA), (((((bb).f4).f4).f4).f4).f4, aE, a2, aI, aJ, a3, rfl⟩
   refine W_cond_f bh a8 ?_
   replace a8 := Zk a8
   refine W_skip (Ze (Zc ?_))
   obtain ⟨a5, o, g⟩ := Zg g
   refine W_mid (M := fun f' w' => (fun (a5 : Bool) => ∃ (b6 : PHeap) , PHeap.le aF b6 ∧ St w0 b6 (Res.arr (encInt .i64) 3 j ab.Ops :: Res.box x 28 [am, an, ao, ap, aq] :: Res.box y 64 [ad, ae] :: Res.box z 37 [t, u, j] :: Res.box n 51 [Value.string (a.Name), Vi (a.Cost), af, ag, ah, ai, aj] :: H) w' ∧ f' 3 = Vi (l) ∧ f' 4 = Value.pointer (some ⟨x, 0, none⟩) ∧ f' 5 = Value.pointer (some ⟨y, 0, none⟩) ∧ f' 6 = Value.pointer (some ⟨z, 0, none⟩) ∧ f' 9 = Value.pointer (some ⟨n, 0, none⟩) ∧ f' 10 = Vi (c) ∧ f' 74 = Value.bool (a5)) a5) ?_ ?_
   ·refine W_dl (n0 := 25) (qs 0 25 .done) hmix (by kernel_rfl) (by kernel_rfl) ?_
    have ac := bb.drew
    refine DL_q rfl rfl (Zp F28_4 rfl a2 rfl ⟨rfl, ?_⟩)
    refine DL_q rfl rfl (Zn ((ac).f1) A26 rfl rfl rfl ⟨rfl, ?_⟩)
    refine DL_q rfl rfl (Zm (v := Vi (c)) rfl av ⟨rfl, ?_⟩)
    obtain ⟨b8, bl, o⟩ := Zg o
    refine DL_q rfl rfl (Exec.index_repE S26 rfl rfl rfl (ax.mono (Zt (Zt p d) aA)) bl ?_)
    intro dd d5 bE dl
    refine ⟨rfl, ?_⟩
    refine DL_q rfl rfl (Zp F51_1 rfl rfl rfl ⟨rfl, ?_⟩)
    refine DL_q rfl rfl (Zw (E := (encInt .i64)) ac A3 rfl rfl rfl (bE.sub (Sub.iso (Sub.snd (Sub.fst (Sub.refl _)) rfl)) rfl) ?_)
    intro eb c8
    obtain rfl := encInt_val.1 c8
    refine ⟨rfl, ?_⟩
    refine DL_q rfl rfl (Zp F51_1 rfl a3 rfl ⟨rfl, ?_⟩)
    refine DL_q rfl rfl (Zn ((ac).f4) A3 rfl rfl rfl ⟨rfl, ?_⟩)
    refine DL_q rfl rfl (Zq rfl rfl rfl ⟨rfl, ?_⟩)
    refine DL_q rfl rfl (Zm (v := Value.bool (decide (b8.Cost < a.Cost))) rfl rfl ⟨rfl, ?_⟩)
    rcases ite_some o with ⟨b, o⟩ | ⟨b, o⟩
    ·refine DL_passes 15 (by rw [b]; rfl) ?_
     refine DL_done (Zb (Ze ?_))
     have dm := Zu o
     subst a5
     exact ⟨aF, (Zv _), (((((ac).f4).f4).f4).f4).f4, aE, a2, aI, aJ, a3, av, rfl⟩
    replace b := Zk b
    refine DL_qg rfl rfl (Zf rfl (Zx b)) (Zp F28_4 rfl a2 rfl ⟨rfl, ?_⟩)
    refine DL_qg rfl rfl (Zf rfl (Zx b)) (Zn ((ac).f1) A26 rfl rfl rfl ⟨rfl, ?_⟩)
    refine DL_qg rfl rfl (Zf rfl (Zx b)) (Zm (v := Vi (c)) rfl av ⟨rfl, ?_⟩)
    refine DL_qg rfl rfl (Zf rfl (Zx b)) (Exec.index_repE S26 rfl rfl rfl (ax.mono (Zt (Zt p d) aA)) bl ?_)
    intro de d6 bF dn
    refine ⟨rfl, ?_⟩
    refine DL_qg rfl rfl (Zf rfl (Zx b)) (Zp F51_1 rfl rfl rfl ⟨rfl, ?_⟩)
    refine DL_qg rfl rfl (Zf rfl (Zx b)) (Zw (E := (encInt .i64)) ac A3 rfl rfl rfl (bF.sub (Sub.iso (Sub.snd (Sub.fst (Sub.refl _)) rfl)) rfl) ?_)
    intro ec c9
    obtain rfl := encInt_val.1 c9
    refine ⟨rfl, ?_⟩
    refine DL_qg rfl rfl (Zf rfl (Zx b)) (Zp F51_1 rfl a3 rfl ⟨rfl, ?_⟩)
    refine DL_qg rfl rfl (Zf rfl (Zx b)) (Zn ((ac).f4) A3 rfl rfl rfl ⟨rfl, ?_⟩)
    refine DL_qg rfl rfl (Zf rfl (Zx b)) (Exec.eql rfl rfl rfl ⟨rfl, ?_⟩)
    refine DL_qg rfl rfl (Zf rfl (Zx b)) (Zm (v := Value.bool (decide (b8.Cost = a.Cost))) rfl rfl ⟨rfl, ?_⟩)
    rcases ite_some o with ⟨ak, o⟩ | ⟨ak, o⟩
    ·refine DL_qg rfl rfl (Zf rfl (Zx ak)) (Zm (v := Vi (c)) rfl av ⟨rfl, ?_⟩)
     refine DL_qg rfl rfl (Zf rfl (Zx ak)) (Zm (v := Vi (l)) rfl aE ⟨rfl, ?_⟩)
     refine DL_qg rfl rfl (Zf rfl (Zx ak)) (Zq rfl rfl rfl ⟨rfl, ?_⟩)
     refine DL_qg rfl rfl (Zf rfl (Zx b)) (Zs (v := Value.bool (decide (c < l))) rfl (Zx ak) rfl ⟨rfl, ?_⟩)
     refine DL_q rfl rfl (Exec.pick_f (v := Value.bool (decide (c < l))) rfl (Zx b) rfl ⟨rfl, ?_⟩)
     refine DL_done (Zb (Ze ?_))
     have dp := Zu o
     subst a5
     exact ⟨aF, (Zv _), (((((ac).f4).f4).f4).f4).f4, aE, a2, aI, aJ, a3, av, rfl⟩
    replace ak := Zk ak
    refine DL_passes 3 (by rw [ak]; rfl) ?_
    refine DL_qg rfl rfl (Zf rfl (Zx b)) (Exec.pick_f (v := Value.bool (false)) rfl rfl rfl ⟨rfl, ?_⟩)
    refine DL_q rfl rfl (Exec.pick_f (v := Value.bool (false)) rfl (Zx b) rfl ⟨rfl, ?_⟩)
    refine DL_done (Zb (Ze ?_))
    have dq := Zu o
    subst a5
    exact ⟨aF, (Zv _), (((((ac).f4).f4).f4).f4).f4, aE, a2, aI, aJ, a3, av, rfl⟩
   intro d0 eu bO
   obtain ⟨b7, bg, bc, cv, cw, cx, cy, cz, c0, bi⟩ := bO
   refine (Ze ?_)
   rcases ite_some g with ⟨a9, g⟩ | ⟨a9, g⟩
   ·refine W_cond_t bi a9 (Zc (Zd (Za rfl rfl (Zo (v := Value.bool (true)) rfl rfl (Zb (Ze (W_ret (ib_ret (at_ret (at_ret (ib_ret (at_ret (at_ret ?_)))))))))))))
    have dr := Zu g
    subst aG
    have ce := cf _ (be (by intro _ h; cases h))
    have dt := Zu ce
    subst r
    refine ⟨_, ret1 rfl, ?_⟩
    exact ⟨b7, (Zt (Zt (Zt p d) aA) bg), ((((((((bc).f1).drop).f1).drop).f1).drop).f1).drop, rfl⟩
   refine W_cond_f bi a9 ?_
   replace a9 := Zk a9
   refine W_skip (ib_normal (Ze (Zd (Za rfl rfl (Zm (v := Vi (c)) rfl c0 (Za rfl rfl (Exec.add rfl rfl rfl (Za rfl rfl (Zo (v := Vi (IntKind.i64.wrap (c + 1))) rfl rfl (Zb (Ze ?_)))))))))))
   have du := Zu g
   subst aG
   refine ⟨_, rfl, ?_⟩; exact ⟨b7, (Zt (Zt d aA) bg), (((((bc).f4).f4).f4).f4).f4, cv, cw, cx, cy, cz, rfl⟩
  refine W_cond_f rfl a7 ?_
  replace a7 := Zk a7
  refine W_exit (at_exit (at_exit (ib_here (Ze ?_))))
  have dv := Zu g
  subst aG
  refine ⟨_, .inr (be (by intro _ h; cases h)), ?_⟩; exact ⟨aO, d, (((((ar).f4).f4).f4).f4).f4, aB, au, aC, aD, a1, al⟩
 rintro d1 ev ⟨bf, bd, bP⟩
 have hm := bd.elim (cd _) (cc _)
 clear bd
 obtain ⟨cT, co, cb, d7, d8, d9, dA, dB, dC⟩ := bP
 refine (Ze (Zc (Zd (Za rfl rfl (Zo (v := Value.bool (false)) rfl rfl (Zb (Ze (W_ret ?_))))))))
 have dw := Zu hm
 subst r
 refine ⟨_, ret1 rfl, ?_⟩
 exact ⟨cT, (Zt p co), ((((((((cb).f1).drop).f1).drop).f1).drop).f1).drop, rfl⟩
end Go.Pw
