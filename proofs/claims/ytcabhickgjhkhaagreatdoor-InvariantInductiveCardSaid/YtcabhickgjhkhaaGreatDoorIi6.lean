/-
  The walks (printed by my generator).
-/
import Derived.Test.YtcabhickgjhkhaaGreatDoorL29
import Derived.Test.YtcabhickgjhkhaaGreatDoorL27
import Derived.Test.YtcabhickgjhkhaaGreatDoorIi5
set_option maxRecDepth 100000
set_option maxHeartbeats 4000000
set_option linter.unusedVariables false
namespace Go.Pw
open Go.Proofs
theorem F33_1 : tyField Tryz.prog 33 1 = some 1 := by kernel_rfl
theorem A33 : tyAgg Tryz.prog 33 = some (true, 2) := by kernel_rfl
theorem Z33 : tyZero Tryz.prog 33 = some (Value.agg #[Value.slice none 0 0, Value.slice none 0 0]) := by kernel_rfl
theorem ground_proper_sim {w0 w : World} {s : PHeap} {H : List Res} {i : Ground} {n : GState} {o : Value} {p : Value} {q : Value} {t : Value} {u : Value} {ak : Value} {x : Value} {r : Bool} (hm : ground_proper_p i n = some r) (hS : St w0 s (H) w) (a9 : SliceRep encAtom s o i.Atoms) (am : SliceRep encGFluent s p i.Fluents) (bu : SliceRep (encInt .i64) s q i.Init) (bv : SliceRep encCond s t i.Goal) (bw : SliceRep encGOp s u i.Ops) (aA : SliceRep (encInt .i64) s ak n.True) (ah : SliceRep (encInt .i64) s x n.Values) :
  Calls Tryz.prog 61 #[Value.agg #[o, p, q, t, u], Value.agg #[ak, x]] w fun e w' => ∃ v, e = .returned v ∧ ((fun (bs : Bool) => ∃ (a3 : PHeap) , PHeap.le s a3 ∧ St w0 a3 (H) w' ∧ v = Value.bool (bs)) r) := by
 unfold ground_proper_p at hm
 refine calls_of_W Tryz.func61 rfl rfl (Zc (Zd (Za rfl rfl (Exec.box (cs := [o, p, q, t, u]) hS rfl rfl rfl ?_))))
 intro d bP aK
 refine Za rfl rfl (Exec.box (cs := [ak, x]) aK rfl rfl rfl ?_)
 intro ar bQ y
 refine Za rfl rfl (Zo (v := Value.bool (false)) rfl rfl (Zb (Ze (Zc (Zc ?_)))))
 obtain ⟨af, l, hm⟩ := Zg hm
 refine W_mid (M := fun f' w' => (fun (af : Bool) => ∃ (a4 : PHeap) , PHeap.le s a4 ∧ St w0 a4 (Res.box d 28 [o, p, q, t, u] :: Res.box ar 33 [ak, x] :: H) w' ∧ f' 2 = Value.pointer (some ⟨d, 0, none⟩) ∧ f' 3 = Value.pointer (some ⟨ar, 0, none⟩) ∧ f' 22 = Value.bool (af)) af) ?_ ?_
 ·refine Zd (Za rfl rfl (Zp F33_1 rfl rfl rfl (Za rfl rfl (Zn (y) A24 rfl rfl rfl (Za rfl rfl (Zr S24 rfl rfl ah (Za rfl rfl (Zp F28_1 rfl rfl rfl (Za rfl rfl (Zn ((y).f1) A23 rfl rfl rfl (Za rfl rfl (Zr S23 rfl rfl am (Za rfl rfl (Exec.neq rfl rfl rfl (Za rfl rfl (Zm (v := Value.bool (!decide ((n.Values.length : Int) = (i.Fluents.length : Int)))) rfl rfl ?_))))))))))))))))
  rcases ite_some l with ⟨b, l⟩ | ⟨b, l⟩
  ·refine WL_passes 8 (by rw [b]; rfl) ?_
   refine Zb (Ze ?_)
   have b1 := Zu l
   subst af
   exact ⟨s, (Zv _), (y).f1, rfl, rfl, rfl⟩
  replace b := Zk b
  refine WL_run rfl (Zf rfl (Zx b)) rfl (Zp F33_0 rfl rfl rfl (WL_run rfl (Zf rfl (Zx b)) rfl (Zn (y) A24 rfl rfl rfl (WL_run rfl (Zf rfl (Zx b)) rfl (Zp F28_0 rfl rfl rfl (WL_run rfl (Zf rfl (Zx b)) rfl (Zn ((y).f1) A22 rfl rfl rfl (WL_run rfl (Zf rfl (Zx b)) rfl (Zr S22 rfl rfl a9 ?_)))))))))
  obtain ⟨bt, bh, l⟩ := Zg l
  refine WL_run rfl (Zf rfl (Zx b)) rfl (Tc rfl rfl rfl (Zi rfl (Zi rfl args_nil)) (ground_indices_sim bh y aA).r ?_)
  rintro _ bR ⟨bm, aW, aL, rfl⟩
  refine WL_run rfl (Zf rfl (Zx b)) rfl (Exec.not rfl rfl (Za rfl rfl (Exec.pick_f (v := Value.bool (!bt)) rfl (Zx b) rfl (Zb (Ze ?_)))))
  have b2 := Zu l
  subst af
  exact ⟨bm, aW, (aL).f1, rfl, rfl, rfl⟩
 intro bA bS aH
 obtain ⟨aj, g, an, aZ, ba, az⟩ := aH
 refine (Ze ?_)
 rcases ite_some hm with ⟨aa, hm⟩ | ⟨aa, hm⟩
 ·refine W_cond_t az aa (Zc (Zd (Za rfl rfl (Zo (v := Value.bool (false)) rfl rfl (Zb (Ze (W_ret (at_ret ?_))))))))
  have b3 := Zu hm
  subst r
  refine ⟨_, ret1 rfl, ?_⟩
  exact ⟨aj, g, ((an).drop).drop, rfl⟩
 refine W_cond_f az aa ?_
 replace aa := Zk aa
 refine W_skip (Ze (Zc (Zc (Zd (Za rfl rfl (Zp F33_1 rfl ba rfl (Za rfl rfl (Zn ((an).f1) A24 rfl rfl rfl (Za rfl rfl (Zr S24 rfl rfl (ah.mono g) (Za rfl rfl (Zm (v := Vi (0)) rfl rfl (Zb (Ze ?_))))))))))))))
 obtain ⟨au, aE, aT, aR, aP⟩ := ctl_some hm
 refine W_mid (M := fun f' w' => ∃ s', (au = .next s' ∨ au = .brk s') ∧ (fun (_ : Unit) => ∃ (a5 : PHeap) , PHeap.le aj a5 ∧ St w0 a5 (Res.box d 28 [o, p, q, t, u] :: H) w' ∧ f' 2 = Value.pointer (some ⟨d, 0, none⟩) ∧ f' 24 = x ∧ f' 25 = Vi ((n.Values.length : Int))) s') ?_ ?_
 ·refine W_block (W_forC (fun k' s' f' w' => (fun (_ : Unit) => ∃ (a6 : PHeap) , PHeap.le aj a6 ∧ St w0 a6 (Res.box d 28 [o, p, q, t, u] :: H) w' ∧ f' 2 = Value.pointer (some ⟨d, 0, none⟩) ∧ f' 24 = x ∧ f' 25 = Vi ((n.Values.length : Int)) ∧ f' 26 = Vi (k' : Int)) s') aE ?_ ?_ ?_)
  ·have aM := ((an).f1).drop
   exact ⟨aj, (Zv _), aM, aZ, rfl, rfl, rfl⟩
  ·intro z bL av bB bT aQ aF c aU
   obtain ⟨aq, ac, j, ai, ao, ap, ad⟩ := aF
   refine Zc (Zd (Za rfl rfl (Zq rfl ad ap (Zb (Ze (Zc (W_true (Zx (decide_eq_true (by omega))) (W_skip (Ze (Zc (W_block (Zc (Zd (Za rfl rfl (Zm (v := Vi ((z : Int))) rfl ad ?_)))))))))))))))
   obtain ⟨ae, bi, c⟩ := Zg c
   refine Za rfl rfl (Exec.index_rep S24 rfl ao ad (ah.mono (Zt g ac)) bi ?_)
   intro bx bF aB
   refine Za rfl rfl (Zw (E := (encInt .i64)) j A3 rfl rfl rfl aB ?_)
   intro bO bj
   obtain rfl := encInt_val.1 bj
   refine Za rfl rfl (Zo (v := Vi ((z : Int))) rfl rfl (Za rfl rfl (Zo (v := Vi (ae)) rfl rfl (Zb (Ze (Zc ?_))))))
   obtain ⟨ag, m, c⟩ := Zg c
   refine W_mid (M := fun f' w' => (fun (ag : Bool) => ∃ (a7 : PHeap) , PHeap.le aq a7 ∧ St w0 a7 (Res.box d 28 [o, p, q, t, u] :: H) w' ∧ f' 2 = Value.pointer (some ⟨d, 0, none⟩) ∧ f' 24 = x ∧ f' 25 = Vi ((n.Values.length : Int)) ∧ f' 26 = Vi ((z : Int)) ∧ f' 48 = Value.bool (ag)) ag) ?_ ?_
   ·refine Zd (Za rfl rfl (Zm (v := Vi (ae)) rfl rfl (Za rfl rfl (Zp F28_1 rfl ai rfl (Za rfl rfl (Zn (j) A23 rfl rfl rfl (Za rfl rfl (Zm (v := Vi ((z : Int))) rfl rfl ?_))))))))
    obtain ⟨al, a2, m⟩ := Zg m
    refine Za rfl rfl (Exec.index_rep S23 rfl rfl rfl (am.mono (Zt g ac)) a2 ?_)
    intro bz bG aC
    refine Za rfl rfl (Zp F69_1 rfl rfl rfl (Za rfl rfl (Zw (E := (encInt .i64)) j A3 rfl rfl rfl (aC.sub (Sub.iso (Sub.snd (Sub.fst (Sub.refl _)) rfl)) rfl) ?_)))
    intro bp bk
    obtain rfl : bp = Vi (al.Lo) := encInt_val.1 bk
    refine Za rfl rfl (Zq rfl rfl rfl (Za rfl rfl (Zm (v := Value.bool (decide (ae < al.Lo))) rfl rfl ?_)))
    rcases ite_some m with ⟨a, m⟩ | ⟨a, m⟩
    ·refine WL_passes 9 (by rw [a]; rfl) ?_
     refine Zb (Ze ?_)
     have b4 := Zu m
     subst ag
     exact ⟨aq, (Zv _), j, ai, ao, ap, ad, rfl⟩
    replace a := Zk a
    refine WL_run rfl (Zf rfl (Zx a)) rfl (Zm (v := Vi (ae)) rfl rfl (WL_run rfl (Zf rfl (Zx a)) rfl (Zp F28_1 rfl ai rfl (WL_run rfl (Zf rfl (Zx a)) rfl (Zn (j) A23 rfl rfl rfl (WL_run rfl (Zf rfl (Zx a)) rfl (Zm (v := Vi ((z : Int))) rfl rfl (WL_run rfl (Zf rfl (Zx a)) rfl (Exec.index_rep S23 rfl rfl rfl (am.mono (Zt g ac)) a2 ?_)))))))))
    intro b0 bH aD
    refine WL_run rfl (Zf rfl (Zx a)) rfl (Zp F69_2 rfl rfl rfl (WL_run rfl (Zf rfl (Zx a)) rfl (Zw (E := (encInt .i64)) j A3 rfl rfl rfl (aD.sub (Sub.iso (Sub.snd (Sub.snd (Sub.fst (Sub.refl _)) rfl) rfl)) rfl) ?_)))
    intro bq bl
    obtain rfl : bq = Vi (al.Hi) := encInt_val.1 bl
    refine WL_run rfl (Zf rfl (Zx a)) rfl (Exec.gtr rfl rfl rfl (Za rfl rfl (Exec.pick_f (v := Value.bool (decide (al.Hi < ae))) rfl (Zx a) rfl (Zb (Ze ?_)))))
    have b5 := Zu m
    subst ag
    exact ⟨aq, (Zv _), j, ai, ao, ap, ad, rfl⟩
   intro bC bU aI
   obtain ⟨a8, ay, aw, bb, bc, bd, be, a0⟩ := aI
   refine (Ze ?_)
   rcases ite_some c with ⟨ab, c⟩ | ⟨ab, c⟩
   ·refine W_cond_t a0 ab (Zc (Zd (Za rfl rfl (Zo (v := Value.bool (false)) rfl rfl (Zb (Ze (W_ret (ib_ret (at_ret (at_ret (ib_ret (at_ret (at_ret ?_)))))))))))))
    have b6 := Zu c
    subst av
    have aS := aT _ (aU (by intro _ h; cases h))
    have b7 := Zu aS
    subst r
    refine ⟨_, ret1 rfl, ?_⟩
    exact ⟨a8, (Zt (Zt g ac) ay), (aw).drop, rfl⟩
   refine W_cond_f a0 ab ?_
   replace ab := Zk ab
   refine W_skip (ib_normal (Ze (Zd (Za rfl rfl (Exec.add rfl be rfl (Za rfl rfl (Zm (v := Vi (IntKind.i64.wrap ((z : Int) + 1))) rfl rfl (Zb (Ze ?_)))))))))
   have b8 := Zu c
   subst av
   refine ⟨_, rfl, ?_⟩; exact ⟨a8, (Zt ac ay), aw, bb, bc, bd, (Eq.trans rfl (wrap_up aQ (SliceRep.le (ah.mono g))))⟩
  intro bM bD bV aG aV
  obtain ⟨bn, aX, aN, bf, bg, a1, br⟩ := aG
  refine Zc (Zd (Za rfl rfl (Zq rfl br a1 (Zb (Ze (Zc (W_false (Zx (decide_eq_false (by omega))) (W_exit (at_exit (at_exit (ib_here (Ze ?_))))))))))))
  refine ⟨_, .inl aV, ?_⟩; exact ⟨bn, aX, aN, bf, bg, a1⟩
 rintro bE bW ⟨bN, ax, aJ⟩
 have hm := ax.elim (aR _) (aP _)
 clear ax
 obtain ⟨bo, aY, aO, bI, bJ, bK⟩ := aJ
 refine (Ze (Zc (Zd (Za rfl rfl (Zo (v := Value.bool (true)) rfl rfl (Zb (Ze (W_ret ?_))))))))
 have b9 := Zu hm
 subst r
 refine ⟨_, ret1 rfl, ?_⟩
 exact ⟨bo, (Zt g aY), (aO).drop, rfl⟩
theorem Z113 : tyZero Tryz.prog 113 = some (Value.nilFunc) := by kernel_rfl
theorem A113 : tyAgg Tryz.prog 113 = some (false, 1) := by kernel_rfl
theorem N63 : (Tryz.f63.name == "runtime.NumGoroutine") = false := by kernel_rfl
theorem ground_holds_c1_sim {w0 w : World} {s : PHeap} {H : List Res} {b : Int} {a : GState} {f g : Nat} {r : Bool} (hm : ground_holds_c1_p b a = some r) (hS : St w0 s (H) w) (i : At s f g encGState a) :
  Calls Tryz.prog 63 #[Vi (b), Value.pointer (some ⟨f, g, none⟩)] w fun e w' => ∃ v, e = .returned v ∧ ((fun (q : Bool) => ∃ (h : PHeap) , PHeap.le s h ∧ St w0 h (H) w' ∧ v = Value.bool (q)) r) := by
 unfold ground_holds_c1_p at hm
 refine calls_of_W Tryz.func63 rfl rfl (Zc (Zd (Za rfl rfl (Zo (v := Value.bool (false)) rfl rfl (Zb (Ze (Zc (Zd (Za rfl rfl (Zp F33_0 rfl rfl rfl (Za rfl rfl (Zw (E := (encSlice (encInt .i64))) hS A24 rfl rfl rfl (i.sub (Sub.iso (Sub.fst (Sub.refl _))) rfl) ?_))))))))))))
 intro u l
 have n : SliceRep _ _ _ (a.True) := encSlice_val.1 l
 refine Za rfl rfl (Zm (v := Vi (b)) rfl rfl ?_)
 obtain ⟨p, m, hm⟩ := Zg hm
 obtain ⟨c, d⟩ := p
 replace hm := un2_eq hm
 refine Za rfl rfl (Tc rfl rfl rfl (Zi rfl (Zi rfl args_nil)) (slices_BinarySearch_int_sim m hS n).r ?_)
 rintro _ x ⟨o, k, j, rfl⟩
 refine Za rfl rfl (Zm (v := Value.tuple #[Vi (c), Value.bool (d)]) rfl rfl (Za rfl rfl (Exec.extract (v := Vi (c)) rfl rfl rfl (Za rfl rfl (Exec.extract (v := Value.bool (d)) rfl rfl rfl (Za rfl rfl (Zo (v := Vi (c)) rfl rfl (Za rfl rfl (Zo (v := Value.bool (d)) rfl rfl (Zb (Ze (Zc (Zd (WL_passes 2 rfl (Zb (Ze (W_ret ?_)))))))))))))))))
 have t := Zu hm
 subst r
 refine ⟨_, ret1 rfl, ?_⟩
 exact ⟨o, k, j, rfl⟩
theorem N65 : (Tryz.f65.name == "runtime.NumGoroutine") = false := by kernel_rfl
theorem ground_holds_c2_sim {w0 w : World} {s : PHeap} {H : List Res} {c : Int} {f : GState} {a : Nat} {b d : Nat} {r : Bool} (hm : ground_holds_c2_p c f = some r) (hS : St w0 s (Res.box a 113 [Value.func (.func 63) #[] #[Value.pointer (some ⟨b, d, none⟩)]] :: H) w) (h : At s b d encGState f) :
  Calls Tryz.prog 65 #[Vi (c), Value.pointer (some ⟨a, 0, none⟩)] w fun e w' => ∃ v, e = .returned v ∧ ((fun (m : Bool) => ∃ (g : PHeap) , PHeap.le s g ∧ St w0 g (Res.box a 113 [Value.func (.func 63) #[] #[Value.pointer (some ⟨b, d, none⟩)]] :: H) w' ∧ v = Value.bool (m)) r) := by
 unfold ground_holds_c2_p at hm
 refine calls_of_W Tryz.func65 rfl rfl (Zc (Zd (Za rfl rfl (Zo (v := Value.bool (false)) rfl rfl (Zb (Ze (Zc (Zd (Za rfl rfl (Zn (hS) A113 rfl rfl rfl (Za rfl rfl (Zm (v := Vi (c)) rfl rfl ?_))))))))))))
 obtain ⟨n, k, hm⟩ := Zg hm
 refine Za rfl rfl (Exec.callc rfl rfl Tryz.func63 rfl N63 (Zi rfl args_nil) rfl ((ground_holds_c1_sim k hS h).mono ?_))
 rintro _ p ⟨_, rfl, ⟨l, j, i, rfl⟩⟩
 refine ⟨_, rfl, ?_⟩
 refine Za rfl rfl (Exec.not rfl rfl (Za rfl rfl (Zo (v := Value.bool (!n)) rfl rfl (Zb (Ze (W_ret ?_))))))
 have o := Zu hm
 subst r
 refine ⟨_, ret1 rfl, ?_⟩
 exact ⟨l, j, i, rfl⟩
theorem slices_IndexFunc_int_holds_c2_sim {w0 w : World} {s : PHeap} {H : List Res} {m : (List Int)} {p : GState} {d : Value} {b : Nat} {g j : Nat} {r : Int} (hm : slices_IndexFunc_int_holds_c2_p m p = some r) (hS : St w0 s (Res.box b 113 [Value.func (.func 63) #[] #[Value.pointer (some ⟨g, j, none⟩)]] :: H) w) (n : SliceRep (encInt .i64) s d m) (ai : At s g j encGState p) :
  Calls Tryz.prog 83 #[d, Value.func (.func 65) #[] #[Value.pointer (some ⟨b, 0, none⟩)]] w fun e w' => ∃ v, e = .returned v ∧ ((fun (a9 : Int) => ∃ (ae : PHeap) , PHeap.le s ae ∧ St w0 ae (Res.box b 113 [Value.func (.func 63) #[] #[Value.pointer (some ⟨g, j, none⟩)]] :: H) w' ∧ v = Vi (a9)) r) := by
 unfold slices_IndexFunc_int_holds_c2_p at hm
 refine calls_of_W Tryz.func83 rfl rfl (Zc (Zd (Za rfl rfl (Zo (v := Vi (0)) rfl rfl (Zb (Ze (Zc (Zc (Zd (Za rfl rfl (Zm (v := d) rfl rfl (Za rfl rfl (Zr S24 rfl rfl n (Za rfl rfl (Zm (v := Vi (0)) rfl rfl (Zb (Ze ?_)))))))))))))))))
 obtain ⟨q, ak, aw, au, aq⟩ := ctl_some hm
 refine W_mid (M := fun f' w' => ∃ s', (q = .next s' ∨ q = .brk s') ∧ (fun (_ : Unit) => ∃ (af : PHeap) , PHeap.le s af ∧ St w0 af (Res.box b 113 [Value.func (.func 63) #[] #[Value.pointer (some ⟨g, j, none⟩)]] :: H) w' ∧ f' 0 = d ∧ f' 1 = Value.func (.func 65) #[] #[Value.pointer (some ⟨b, 0, none⟩)] ∧ f' 7 = Vi ((m.length : Int))) s') ?_ ?_
 ·refine W_block (W_forC (fun k' s' f' w' => (fun (_ : Unit) => ∃ (ag : PHeap) , PHeap.le s ag ∧ St w0 ag (Res.box b 113 [Value.func (.func 63) #[] #[Value.pointer (some ⟨g, j, none⟩)]] :: H) w' ∧ f' 0 = d ∧ f' 1 = Value.func (.func 65) #[] #[Value.pointer (some ⟨b, 0, none⟩)] ∧ f' 7 = Vi ((m.length : Int)) ∧ f' 8 = Vi (k' : Int)) s') ak ?_ ?_ ?_)
  ·exact ⟨s, (Zv _), hS, rfl, rfl, rfl, rfl⟩
  ·intro c aN t aF aR ar al a ax
   obtain ⟨aM, l, u, aa, ab, ac, o⟩ := al
   refine Zc (Zd (Za rfl rfl (Zq rfl o ac (Zb (Ze (Zc (W_true (Zx (decide_eq_true (by omega))) (W_skip (Ze (Zc (W_block (Zc (Zd (Za rfl rfl (Zm (v := Vi ((c : Int))) rfl o (Za rfl rfl (Zo (v := Vi ((c : Int))) rfl rfl (Zb (Ze (Zc (Zd (Za rfl rfl (Zm (v := Value.func (.func 65) #[] #[Value.pointer (some ⟨b, 0, none⟩)]) rfl ab (Za rfl rfl (Zm (v := d) rfl aa (Za rfl rfl (Zm (v := Vi ((c : Int))) rfl rfl ?_)))))))))))))))))))))))))))
   obtain ⟨aV, a3, a⟩ := Zg a
   refine Za rfl rfl (Exec.index_rep S24 rfl rfl rfl (n.mono l) a3 ?_)
   intro aA aI aj
   refine Za rfl rfl (Zw (E := (encInt .i64)) u A3 rfl rfl rfl aj ?_)
   intro aQ a4
   obtain rfl := encInt_val.1 a4
   obtain ⟨aW, a5, a⟩ := Zg a
   refine Za rfl rfl (Exec.callc rfl rfl Tryz.func65 rfl N65 (Zi rfl args_nil) rfl ((ground_holds_c2_sim a5 u (ai.mono l)).mono ?_))
   rintro _ aS ⟨_, rfl, ⟨ah, z, x, rfl⟩⟩
   refine ⟨_, rfl, ?_⟩
   refine Zb (Ze ?_)
   rcases ite_some a with ⟨i, a⟩ | ⟨i, a⟩
   ·refine W_cond_t rfl i (Zc (Zd (Za rfl rfl (Zm (v := Vi ((c : Int))) rfl rfl (Za rfl rfl (Zo (v := Vi ((c : Int))) rfl rfl (Zb (Ze (W_ret (ib_ret (at_ret (at_ret (ib_ret (at_ret (at_ret ?_)))))))))))))))
    have aB := Zu a
    subst t
    have av := aw _ (ax (by intro _ h; cases h))
    have aC := Zu av
    subst r
    refine ⟨_, ret1 rfl, ?_⟩
    exact ⟨ah, (Zt l z), x, rfl⟩
   refine W_cond_f rfl i ?_
   replace i := Zk i
   refine W_skip (ib_normal (Ze (Zd (Za rfl rfl (Exec.add rfl o rfl (Za rfl rfl (Zm (v := Vi (IntKind.i64.wrap ((c : Int) + 1))) rfl rfl (Zb (Ze ?_)))))))))
   have aD := Zu a
   subst t
   refine ⟨_, rfl, ?_⟩; exact ⟨ah, (Zt l z), x, aa, ab, ac, (Eq.trans rfl (wrap_up ar (SliceRep.le n)))⟩
  intro aO aG aT am ay
  obtain ⟨a6, az, ao, a1, a2, ad, a8⟩ := am
  refine Zc (Zd (Za rfl rfl (Zq rfl a8 ad (Zb (Ze (Zc (W_false (Zx (decide_eq_false (by omega))) (W_exit (at_exit (at_exit (ib_here (Ze ?_))))))))))))
  refine ⟨_, .inl ay, ?_⟩; exact ⟨a6, az, ao, a1, a2, ad⟩
 rintro aH aU ⟨aP, y, an⟩
 have hm := y.elim (au _) (aq _)
 clear y
 obtain ⟨a7, a0, ap, aJ, aK, aL⟩ := an
 refine (Ze (Zc (Zd (Za rfl rfl (Zo (v := Vi ((-1))) rfl rfl (Zb (Ze (W_ret ?_))))))))
 have aE := Zu hm
 subst r
 refine ⟨_, ret1 rfl, ?_⟩
 exact ⟨a7, a0, ap, rfl⟩
theorem slices_ContainsFunc_int_holds_c2_sim {w0 w : World} {s : PHeap} {H : List Res} {h : (List Int)} {f : GState} {d : Value} {a : Nat} {b c : Nat} {r : Bool} (hm : slices_ContainsFunc_int_holds_c2_p h f = some r) (hS : St w0 s (Res.box a 113 [Value.func (.func 63) #[] #[Value.pointer (some ⟨b, c, none⟩)]] :: H) w) (i : SliceRep (encInt .i64) s d h) (j : At s b c encGState f) :
  Calls Tryz.prog 64 #[d, Value.func (.func 65) #[] #[Value.pointer (some ⟨a, 0, none⟩)]] w fun e w' => ∃ v, e = .returned v ∧ ((fun (o : Bool) => ∃ (g : PHeap) , PHeap.le s g ∧ St w0 g (Res.box a 113 [Value.func (.func 63) #[] #[Value.pointer (some ⟨b, c, none⟩)]] :: H) w' ∧ v = Value.bool (o)) r) := by
 unfold slices_ContainsFunc_int_holds_c2_p at hm
 refine calls_of_W Tryz.func64 rfl rfl (Zc (Zd (Za rfl rfl (Zo (v := Value.bool (false)) rfl rfl (Zb (Ze (Zc (Zd (Za rfl rfl (Zm (v := d) rfl rfl (Za rfl rfl (Zm (v := Value.func (.func 65) #[] #[Value.pointer (some ⟨a, 0, none⟩)]) rfl rfl ?_))))))))))))
 obtain ⟨p, m, hm⟩ := Zg hm
 refine Za rfl rfl (Tc rfl rfl rfl (Zi rfl (Zi rfl args_nil)) (slices_IndexFunc_int_holds_c2_sim m hS i j).r ?_)
 rintro _ t ⟨n, l, k, rfl⟩
 refine Za rfl rfl (Exec.geq rfl rfl rfl (Za rfl rfl (Zo (v := Value.bool (decide (0 ≤ p))) rfl rfl (Zb (Ze (W_ret ?_))))))
 have q := Zu hm
 subst r
 refine ⟨_, ret1 rfl, ?_⟩
 exact ⟨n, l, k, rfl⟩
theorem slices_IndexFunc_int_holds_c1_sim {w0 w : World} {s : PHeap} {H : List Res} {l : (List Int)} {o : GState} {c : Value} {d i : Nat} {r : Int} (hm : slices_IndexFunc_int_holds_c1_p l o = some r) (hS : St w0 s (H) w) (m : SliceRep (encInt .i64) s c l) (ah : At s d i encGState o) :
  Calls Tryz.prog 83 #[c, Value.func (.func 63) #[] #[Value.pointer (some ⟨d, i, none⟩)]] w fun e w' => ∃ v, e = .returned v ∧ ((fun (a8 : Int) => ∃ (ad : PHeap) , PHeap.le s ad ∧ St w0 ad (H) w' ∧ v = Vi (a8)) r) := by
 unfold slices_IndexFunc_int_holds_c1_p at hm
 refine calls_of_W Tryz.func83 rfl rfl (Zc (Zd (Za rfl rfl (Zo (v := Vi (0)) rfl rfl (Zb (Ze (Zc (Zc (Zd (Za rfl rfl (Zm (v := c) rfl rfl (Za rfl rfl (Zr S24 rfl rfl m (Za rfl rfl (Zm (v := Vi (0)) rfl rfl (Zb (Ze ?_)))))))))))))))))
 obtain ⟨p, aj, av, ar, ap⟩ := ctl_some hm
 refine W_mid (M := fun f' w' => ∃ s', (p = .next s' ∨ p = .brk s') ∧ (fun (_ : Unit) => ∃ (ae : PHeap) , PHeap.le s ae ∧ St w0 ae (H) w' ∧ f' 0 = c ∧ f' 1 = Value.func (.func 63) #[] #[Value.pointer (some ⟨d, i, none⟩)] ∧ f' 7 = Vi ((l.length : Int))) s') ?_ ?_
 ·refine W_block (W_forC (fun k' s' f' w' => (fun (_ : Unit) => ∃ (af : PHeap) , PHeap.le s af ∧ St w0 af (H) w' ∧ f' 0 = c ∧ f' 1 = Value.func (.func 63) #[] #[Value.pointer (some ⟨d, i, none⟩)] ∧ f' 7 = Vi ((l.length : Int)) ∧ f' 8 = Vi (k' : Int)) s') aj ?_ ?_ ?_)
  ·exact ⟨s, (Zv _), hS, rfl, rfl, rfl, rfl⟩
  ·intro b aM q aE aQ aq ak a aw
   obtain ⟨aL, j, t, z, aa, ab, n⟩ := ak
   refine Zc (Zd (Za rfl rfl (Zq rfl n ab (Zb (Ze (Zc (W_true (Zx (decide_eq_true (by omega))) (W_skip (Ze (Zc (W_block (Zc (Zd (Za rfl rfl (Zm (v := Vi ((b : Int))) rfl n (Za rfl rfl (Zo (v := Vi ((b : Int))) rfl rfl (Zb (Ze (Zc (Zd (Za rfl rfl (Zm (v := Value.func (.func 63) #[] #[Value.pointer (some ⟨d, i, none⟩)]) rfl aa (Za rfl rfl (Zm (v := c) rfl z (Za rfl rfl (Zm (v := Vi ((b : Int))) rfl rfl ?_)))))))))))))))))))))))))))
   obtain ⟨aU, a2, a⟩ := Zg a
   refine Za rfl rfl (Exec.index_rep S24 rfl rfl rfl (m.mono j) a2 ?_)
   intro a9 aH ai
   refine Za rfl rfl (Zw (E := (encInt .i64)) t A3 rfl rfl rfl ai ?_)
   intro aP a3
   obtain rfl := encInt_val.1 a3
   obtain ⟨aV, a4, a⟩ := Zg a
   refine Za rfl rfl (Exec.callc rfl rfl Tryz.func63 rfl N63 (Zi rfl args_nil) rfl ((ground_holds_c1_sim a4 t (ah.mono j)).mono ?_))
   rintro _ aR ⟨_, rfl, ⟨ag, y, u, rfl⟩⟩
   refine ⟨_, rfl, ?_⟩
   refine Zb (Ze ?_)
   rcases ite_some a with ⟨g, a⟩ | ⟨g, a⟩
   ·refine W_cond_t rfl g (Zc (Zd (Za rfl rfl (Zm (v := Vi ((b : Int))) rfl rfl (Za rfl rfl (Zo (v := Vi ((b : Int))) rfl rfl (Zb (Ze (W_ret (ib_ret (at_ret (at_ret (ib_ret (at_ret (at_ret ?_)))))))))))))))
    have aA := Zu a
    subst q
    have au := av _ (aw (by intro _ h; cases h))
    have aB := Zu au
    subst r
    refine ⟨_, ret1 rfl, ?_⟩
    exact ⟨ag, (Zt j y), u, rfl⟩
   refine W_cond_f rfl g ?_
   replace g := Zk g
   refine W_skip (ib_normal (Ze (Zd (Za rfl rfl (Exec.add rfl n rfl (Za rfl rfl (Zm (v := Vi (IntKind.i64.wrap ((b : Int) + 1))) rfl rfl (Zb (Ze ?_)))))))))
   have aC := Zu a
   subst q
   refine ⟨_, rfl, ?_⟩; exact ⟨ag, (Zt j y), u, z, aa, ab, (Eq.trans rfl (wrap_up aq (SliceRep.le m)))⟩
  intro aN aF aS al ax
  obtain ⟨a5, ay, an, a0, a1, ac, a7⟩ := al
  refine Zc (Zd (Za rfl rfl (Zq rfl a7 ac (Zb (Ze (Zc (W_false (Zx (decide_eq_false (by omega))) (W_exit (at_exit (at_exit (ib_here (Ze ?_))))))))))))
  refine ⟨_, .inl ax, ?_⟩; exact ⟨a5, ay, an, a0, a1, ac⟩
 rintro aG aT ⟨aO, x, am⟩
 have hm := x.elim (ar _) (ap _)
 clear x
 obtain ⟨a6, az, ao, aI, aJ, aK⟩ := am
 refine (Ze (Zc (Zd (Za rfl rfl (Zo (v := Vi ((-1))) rfl rfl (Zb (Ze (W_ret ?_))))))))
 have aD := Zu hm
 subst r
 refine ⟨_, ret1 rfl, ?_⟩
 exact ⟨a6, az, ao, rfl⟩
theorem slices_ContainsFunc_int_holds_c1_sim {w0 w : World} {s : PHeap} {H : List Res} {g : (List Int)} {d : GState} {c : Value} {a b : Nat} {r : Bool} (hm : slices_ContainsFunc_int_holds_c1_p g d = some r) (hS : St w0 s (H) w) (h : SliceRep (encInt .i64) s c g) (i : At s a b encGState d) :
  Calls Tryz.prog 64 #[c, Value.func (.func 63) #[] #[Value.pointer (some ⟨a, b, none⟩)]] w fun e w' => ∃ v, e = .returned v ∧ ((fun (n : Bool) => ∃ (f : PHeap) , PHeap.le s f ∧ St w0 f (H) w' ∧ v = Value.bool (n)) r) := by
 unfold slices_ContainsFunc_int_holds_c1_p at hm
 refine calls_of_W Tryz.func64 rfl rfl (Zc (Zd (Za rfl rfl (Zo (v := Value.bool (false)) rfl rfl (Zb (Ze (Zc (Zd (Za rfl rfl (Zm (v := c) rfl rfl (Za rfl rfl (Zm (v := Value.func (.func 63) #[] #[Value.pointer (some ⟨a, b, none⟩)]) rfl rfl ?_))))))))))))
 obtain ⟨o, l, hm⟩ := Zg hm
 refine Za rfl rfl (Tc rfl rfl rfl (Zi rfl (Zi rfl args_nil)) (slices_IndexFunc_int_holds_c1_sim l hS h i).r ?_)
 rintro _ q ⟨m, k, j, rfl⟩
 refine Za rfl rfl (Exec.geq rfl rfl rfl (Za rfl rfl (Zo (v := Value.bool (decide (0 ≤ o))) rfl rfl (Zb (Ze (W_ret ?_))))))
 have p := Zu hm
 subst r
 refine ⟨_, ret1 rfl, ?_⟩
 exact ⟨m, k, j, rfl⟩
theorem ground_combine_sim {w0 w : World} {s : PHeap} {H : List Res} {p : ByteArray} {a : Int} {b : Int}  {r : Int × Bool} (hm : ground_combine_p p a b = some r) (hS : St w0 s (H) w)  :
  Calls Tryz.prog 82 #[Value.string (p), Vi (a), Vi (b)] w fun e w' => ∃ v, e = .returned v ∧ ((un2 fun (a5 : Int) (a6 : Bool) => ∃ (ac : PHeap) , PHeap.le s ac ∧ St w0 ac (H) w' ∧ v = Value.tuple #[Vi (a5), Value.bool (a6)]) r) := by
 unfold ground_combine_p at hm
 refine calls_of_W Tryz.func82 rfl rfl (Zc (Zd (Za rfl rfl (Zo (v := Vi (0)) rfl rfl (Za rfl rfl (Zo (v := Value.bool (false)) rfl rfl (Zb (Ze (Zc (Zd (Za rfl rfl (Zo (v := Vi (0)) rfl rfl (Zb (Ze (Zc (Zc (Zd (Za rfl rfl (Zm (v := Value.string (p)) rfl rfl (Zb (Ze (W_block (Zc (Zd (Za rfl rfl (Exec.str_eql rfl rfl rfl (Za rfl rfl (Zo (v := Value.bool (decide (p = (⟨#[43]⟩)))) rfl rfl (Zb (Ze ?_))))))))))))))))))))))))))))))
 rcases ite_some hm with ⟨j, hm⟩ | ⟨j, hm⟩
 ·refine W_cond_t rfl j (Zd (Za rfl rfl (Zm (v := Vi (a)) rfl rfl (Za rfl rfl (Zm (v := Vi (b)) rfl rfl (Za rfl rfl (Exec.add rfl rfl rfl (Za rfl rfl (Zo (v := Vi (IntKind.i64.wrap (a + b))) rfl rfl (Zb (ib_normal (Ze (Zc ?_)))))))))))))
  obtain ⟨q, m, hm⟩ := Zg hm
  refine W_mid (M := fun f' w' => (fun (q : Bool) => ∃ (ad : PHeap) , PHeap.le s ad ∧ St w0 ad (H) w' ∧ f' 6 = Vi (IntKind.i64.wrap (a + b)) ∧ f' 7 = Value.bool (q)) q) ?_ ?_
  ·refine Zd (Za rfl rfl (Zm (v := Vi (IntKind.i64.wrap (a + b))) rfl rfl (Za rfl rfl (Zm (v := Vi (IntKind.i64.wrap (a + b))) rfl rfl (Za rfl rfl (Exec.geq rfl rfl rfl (Za rfl rfl (Zm (v := Value.bool (decide ((-1099511627776) ≤ (IntKind.i64.wrap (a + b))))) rfl rfl ?_))))))))
   rcases ite_some m with ⟨d, m⟩ | ⟨d, m⟩
   ·refine WL_run rfl (Zf rfl (Zx d)) rfl (Zm (v := Vi (IntKind.i64.wrap (a + b))) rfl rfl (WL_run rfl (Zf rfl (Zx d)) rfl (Exec.leq rfl rfl rfl (Za rfl rfl (Zs (v := Value.bool (decide ((IntKind.i64.wrap (a + b)) ≤ 1099511627776))) rfl (Zx d) rfl (Za rfl rfl (Zo (v := Vi (IntKind.i64.wrap (a + b))) rfl rfl (Za rfl rfl (Zo (v := Value.bool (decide ((IntKind.i64.wrap (a + b)) ≤ 1099511627776))) rfl rfl (Zb (Ze ?_)))))))))))
    have a7 := Zu m
    subst q
    exact ⟨s, (Zv _), hS, rfl, rfl⟩
   replace d := Zk d
   refine WL_passes 3 (by rw [d]; rfl) ?_
   refine Za rfl rfl (Zo (v := Vi (IntKind.i64.wrap (a + b))) rfl rfl (Za rfl rfl (Zo (v := Value.bool (false)) rfl rfl (Zb (Ze ?_)))))
   have a8 := Zu m
   subst q
   exact ⟨s, (Zv _), hS, rfl, rfl⟩
  intro aJ aO ah
  obtain ⟨a2, ao, al, ar, au⟩ := ah
  refine (Ze (W_ret ?_))
  have a9 := Zu hm
  subst r
  refine ⟨_, ret2 rfl, ?_⟩
  exact ⟨a2, ao, al, (tup2 ar au)⟩
 refine W_cond_f rfl j ?_
 replace j := Zk j
 refine Zc (Zd (Za rfl rfl (Exec.str_eql rfl rfl rfl (Za rfl rfl (Zo (v := Value.bool (decide (p = (⟨#[45]⟩)))) rfl rfl (Zb (Ze ?_)))))))
 rcases ite_some hm with ⟨k, hm⟩ | ⟨k, hm⟩
 ·refine W_cond_t rfl k (Zd (Za rfl rfl (Zm (v := Vi (a)) rfl rfl (Za rfl rfl (Zm (v := Vi (b)) rfl rfl (Za rfl rfl (Exec.sub rfl rfl rfl (Za rfl rfl (Zo (v := Vi (IntKind.i64.wrap (a - b))) rfl rfl (Zb (ib_normal (Ze (Zc ?_)))))))))))))
  obtain ⟨t, n, hm⟩ := Zg hm
  refine W_mid (M := fun f' w' => (fun (t : Bool) => ∃ (ae : PHeap) , PHeap.le s ae ∧ St w0 ae (H) w' ∧ f' 6 = Vi (IntKind.i64.wrap (a - b)) ∧ f' 7 = Value.bool (t)) t) ?_ ?_
  ·refine Zd (Za rfl rfl (Zm (v := Vi (IntKind.i64.wrap (a - b))) rfl rfl (Za rfl rfl (Zm (v := Vi (IntKind.i64.wrap (a - b))) rfl rfl (Za rfl rfl (Exec.geq rfl rfl rfl (Za rfl rfl (Zm (v := Value.bool (decide ((-1099511627776) ≤ (IntKind.i64.wrap (a - b))))) rfl rfl ?_))))))))
   rcases ite_some n with ⟨g, n⟩ | ⟨g, n⟩
   ·refine WL_run rfl (Zf rfl (Zx g)) rfl (Zm (v := Vi (IntKind.i64.wrap (a - b))) rfl rfl (WL_run rfl (Zf rfl (Zx g)) rfl (Exec.leq rfl rfl rfl (Za rfl rfl (Zs (v := Value.bool (decide ((IntKind.i64.wrap (a - b)) ≤ 1099511627776))) rfl (Zx g) rfl (Za rfl rfl (Zo (v := Vi (IntKind.i64.wrap (a - b))) rfl rfl (Za rfl rfl (Zo (v := Value.bool (decide ((IntKind.i64.wrap (a - b)) ≤ 1099511627776))) rfl rfl (Zb (Ze ?_)))))))))))
    have aA := Zu n
    subst t
    exact ⟨s, (Zv _), hS, rfl, rfl⟩
   replace g := Zk g
   refine WL_passes 3 (by rw [g]; rfl) ?_
   refine Za rfl rfl (Zo (v := Vi (IntKind.i64.wrap (a - b))) rfl rfl (Za rfl rfl (Zo (v := Value.bool (false)) rfl rfl (Zb (Ze ?_)))))
   have aB := Zu n
   subst t
   exact ⟨s, (Zv _), hS, rfl, rfl⟩
  intro aK aP ai
  obtain ⟨a3, ap, am, av, aw⟩ := ai
  refine (Ze (W_ret ?_))
  have aC := Zu hm
  subst r
  refine ⟨_, ret2 rfl, ?_⟩
  exact ⟨a3, ap, am, (tup2 av aw)⟩
 refine W_cond_f rfl k ?_
 replace k := Zk k
 refine Zc (Zc ?_)
 obtain ⟨u, i, hm⟩ := Zg hm
 refine W_mid (M := fun f' w' => (fun (u : Bool) => ∃ (af : PHeap) , PHeap.le s af ∧ St w0 af (H) w' ∧ f' 1 = Vi (a) ∧ f' 2 = Vi (b) ∧ f' 23 = Value.bool (u)) u) ?_ ?_
 ·refine Zd (Za rfl rfl (Zm (v := Vi (a)) rfl rfl (Za rfl rfl (Exec.neq rfl rfl rfl (Za rfl rfl (Zm (v := Value.bool (!decide (a = 0))) rfl rfl ?_))))))
  rcases ite_some i with ⟨c, i⟩ | ⟨c, i⟩
  ·refine WL_run rfl (Zf rfl (Zx c)) rfl (Zm (v := Vi (b)) rfl rfl (WL_run rfl (Zf rfl (Zx c)) rfl (Zm (v := Vi (b)) rfl rfl (WL_run rfl (Zf rfl (Zx c)) rfl (Exec.neg rfl rfl (WL_run rfl (Zf rfl (Zx c)) rfl (Exec.max2 rfl rfl rfl (WL_run rfl (Zf rfl (Zx c)) rfl (Zm (v := Vi (a)) rfl rfl (WL_run rfl (Zf rfl (Zx c)) rfl (Zm (v := Vi (a)) rfl rfl (WL_run rfl (Zf rfl (Zx c)) rfl (Exec.neg rfl rfl (WL_run rfl (Zf rfl (Zx c)) rfl (Exec.max2 rfl rfl rfl ?_)))))))))))))))
   obtain ⟨aN, a1, i⟩ := Zg i
   refine WL_run rfl (Zf rfl (Zx c)) rfl (Exec.quo rfl rfl rfl (by simpa using must_some a1) (WL_run rfl (Zf rfl (Zx c)) rfl (Exec.gtr rfl rfl rfl (Za rfl rfl (Zs (v := Value.bool (decide ((IntKind.i64.wrap ((1099511627776 : Int).tdiv (max a (IntKind.i64.wrap (0 - a))))) < (max b (IntKind.i64.wrap (0 - b)))))) rfl (Zx c) rfl (Zb (Ze ?_)))))))
   have aD := Zu i
   subst u
   exact ⟨s, (Zv _), hS, rfl, rfl, rfl⟩
  replace c := Zk c
  refine WL_passes 11 (by rw [c]; rfl) ?_
  refine Zb (Ze ?_)
  have aE := Zu i
  subst u
  exact ⟨s, (Zv _), hS, rfl, rfl, rfl⟩
 intro aL aQ aj
 obtain ⟨y, aa, z, ax, ay, ab⟩ := aj
 refine (Ze ?_)
 rcases ite_some hm with ⟨l, hm⟩ | ⟨l, hm⟩
 ·refine W_cond_t ab l (Zc (Zd (Za rfl rfl (Zo (v := Vi (0)) rfl rfl (Za rfl rfl (Zo (v := Value.bool (false)) rfl rfl (Zb (Ze (W_ret (at_ret (ib_ret (at_ret ?_))))))))))))
  have aF := Zu hm
  subst r
  refine ⟨_, ret2 rfl, ?_⟩
  exact ⟨y, aa, z, (tup2 rfl rfl)⟩
 refine W_cond_f ab l ?_
 replace l := Zk l
 refine W_skip (Ze (Zd (Za rfl rfl (Zm (v := Vi (a)) rfl ax (Za rfl rfl (Zm (v := Vi (b)) rfl ay (Za rfl rfl (Exec.mul rfl rfl rfl (Za rfl rfl (Zo (v := Vi (IntKind.i64.wrap (a * b))) rfl rfl (Zb (ib_normal (Ze (Zc ?_))))))))))))))
 obtain ⟨x, o, hm⟩ := Zg hm
 refine W_mid (M := fun f' w' => (fun (x : Bool) => ∃ (ag : PHeap) , PHeap.le y ag ∧ St w0 ag (H) w' ∧ f' 6 = Vi (IntKind.i64.wrap (a * b)) ∧ f' 7 = Value.bool (x)) x) ?_ ?_
 ·refine Zd (Za rfl rfl (Zm (v := Vi (IntKind.i64.wrap (a * b))) rfl rfl (Za rfl rfl (Zm (v := Vi (IntKind.i64.wrap (a * b))) rfl rfl (Za rfl rfl (Exec.geq rfl rfl rfl (Za rfl rfl (Zm (v := Value.bool (decide ((-1099511627776) ≤ (IntKind.i64.wrap (a * b))))) rfl rfl ?_))))))))
  rcases ite_some o with ⟨h, o⟩ | ⟨h, o⟩
  ·refine WL_run rfl (Zf rfl (Zx h)) rfl (Zm (v := Vi (IntKind.i64.wrap (a * b))) rfl rfl (WL_run rfl (Zf rfl (Zx h)) rfl (Exec.leq rfl rfl rfl (Za rfl rfl (Zs (v := Value.bool (decide ((IntKind.i64.wrap (a * b)) ≤ 1099511627776))) rfl (Zx h) rfl (Za rfl rfl (Zo (v := Vi (IntKind.i64.wrap (a * b))) rfl rfl (Za rfl rfl (Zo (v := Value.bool (decide ((IntKind.i64.wrap (a * b)) ≤ 1099511627776))) rfl rfl (Zb (Ze ?_)))))))))))
   have aG := Zu o
   subst x
   exact ⟨y, (Zv _), z, rfl, rfl⟩
  replace h := Zk h
  refine WL_passes 3 (by rw [h]; rfl) ?_
  refine Za rfl rfl (Zo (v := Vi (IntKind.i64.wrap (a * b))) rfl rfl (Za rfl rfl (Zo (v := Value.bool (false)) rfl rfl (Zb (Ze ?_)))))
  have aH := Zu o
  subst x
  exact ⟨y, (Zv _), z, rfl, rfl⟩
 intro aM aR ak
 obtain ⟨a4, aq, an, az, a0⟩ := ak
 refine (Ze (W_ret ?_))
 have aI := Zu hm
 subst r
 refine ⟨_, ret2 rfl, ?_⟩
 exact ⟨a4, (Zt aa aq), an, (tup2 az a0)⟩
theorem ground_value_step {fu : Nat} (ih : ∀ {w0 w : World} {s : PHeap} {H : List Res} {f : GState} {a : GExpr} {c : Value} {d : Value} {h : Value} {r : Int × Bool} (hm : ground_value_p fu f a = some r) (hS : St w0 s (H) w) (x : SliceRep (encInt .i64) s c f.True) (o : SliceRep (encInt .i64) s d f.Values) (y : SliceRep encGExpr s h a.Kids), Calls Tryz.prog 62 #[Value.agg #[c, d], Value.agg #[Value.string (a.Op), Vi (a.N), h]] w fun e w' => ∃ v, e = .returned v ∧ ((un2 fun (aa : Int) (ab : Bool) => ∃ (n : PHeap) , PHeap.le s n ∧ St w0 n (H) w' ∧ v = Value.tuple #[Vi (aa), Value.bool (ab)]) r)) {w0 w : World} {s : PHeap} {H : List Res} {f : GState} {a : GExpr} {c : Value} {d : Value} {h : Value} {r : Int × Bool} (hm : ground_value_p (fu + 1) f a = some r) (hS : St w0 s (H) w) (x : SliceRep (encInt .i64) s c f.True) (o : SliceRep (encInt .i64) s d f.Values) (y : SliceRep encGExpr s h a.Kids) :
  Calls Tryz.prog 62 #[Value.agg #[c, d], Value.agg #[Value.string (a.Op), Vi (a.N), h]] w fun e w' => ∃ v, e = .returned v ∧ ((un2 fun (aa : Int) (ab : Bool) => ∃ (n : PHeap) , PHeap.le s n ∧ St w0 n (H) w' ∧ v = Value.tuple #[Vi (aa), Value.bool (ab)]) r) := by
 rw [ground_value_p] at hm
 refine calls_of_W Tryz.func62 rfl rfl (Zc (Zd (Za rfl rfl (Exec.box (cs := [c, d]) hS rfl rfl rfl ?_))))
 intro a5 aP ai
 refine Za rfl rfl (Exec.box (cs := [Value.string (a.Op), Vi (a.N), h]) ai rfl rfl rfl ?_)
 intro a6 aQ b
 refine Za rfl rfl (Zo (v := Vi (0)) rfl rfl (Za rfl rfl (Zo (v := Value.bool (false)) rfl rfl (Zb (Ze (Zc (Zc (Zd (Za rfl rfl (Zp F102_0 rfl rfl rfl (Za rfl rfl (Zn (b) A9 rfl rfl rfl (Zb (Ze (W_block (Zc (Zd (Za rfl rfl (Exec.str_eql rfl rfl rfl (Za rfl rfl (Zo (v := Value.bool (decide (a.Op = (⟨#[110, 117, 109, 98, 101, 114]⟩)))) rfl rfl (Zb (Ze ?_)))))))))))))))))))))))
 rcases ite_some hm with ⟨j, hm⟩ | ⟨j, hm⟩
 ·refine W_cond_t rfl j (Zc (Zd (Za rfl rfl (Zp F102_1 rfl rfl rfl (Za rfl rfl (Zn (b) A3 rfl rfl rfl (Za rfl rfl (Zo (v := Vi (a.N)) rfl rfl (Za rfl rfl (Zo (v := Value.bool (true)) rfl rfl (Zb (Ze (W_ret (ib_ret (at_ret ?_)))))))))))))))
  have aA := Zu hm
  subst r
  refine ⟨_, ret2 rfl, ?_⟩
  exact ⟨s, (Zv _), ((b).drop).drop, (tup2 rfl rfl)⟩
 refine W_cond_f rfl j ?_
 replace j := Zk j
 refine Zc (Zd (Za rfl rfl (Exec.str_eql rfl rfl rfl (Za rfl rfl (Zo (v := Value.bool (decide (a.Op = (⟨#[102, 108, 117, 101, 110, 116]⟩)))) rfl rfl (Zb (Ze ?_)))))))
 rcases ite_some hm with ⟨k, hm⟩ | ⟨k, hm⟩
 ·refine W_cond_t rfl k (Zc (Zd (Za rfl rfl (Zp F33_1 rfl rfl rfl (Za rfl rfl (Zn ((b).f1) A24 rfl rfl rfl (Za rfl rfl (Zp F102_1 rfl rfl rfl (Za rfl rfl (Zn (b) A3 rfl rfl rfl ?_))))))))))
  obtain ⟨a4, al, hm⟩ := Zg hm
  refine Za rfl rfl (Exec.index_rep S24 rfl rfl rfl o al ?_)
  intro a7 aH af
  refine Za rfl rfl (Zw (E := (encInt .i64)) b A3 rfl rfl rfl af ?_)
  intro aM am
  obtain rfl := encInt_val.1 am
  refine Za rfl rfl (Zo (v := Vi (a4)) rfl rfl (Za rfl rfl (Zo (v := Value.bool (true)) rfl rfl (Zb (Ze (W_ret (ib_ret (at_ret ?_))))))))
  have aB := Zu hm
  subst r
  refine ⟨_, ret2 rfl, ?_⟩
  exact ⟨s, (Zv _), ((b).drop).drop, (tup2 rfl rfl)⟩
 refine W_cond_f rfl k ?_
 replace k := Zk k
 refine W_skip (ib_normal (Ze (Zc (W_dl (n0 := 10) (qs 0 5 (.e 5 [] (qs 6 4 .done))) hmix (by kernel_rfl) (by kernel_rfl) (DL_q rfl rfl (Exec.load_box_agg (ds := [c, d]) ((b.drew).f1) A33 rfl rfl rfl ⟨rfl, ?_⟩))))))
 refine DL_q rfl rfl (Zp F102_2 rfl rfl rfl ⟨rfl, ?_⟩)
 refine DL_q rfl rfl (Zn (b.drew) A100 rfl rfl rfl ⟨rfl, ?_⟩)
 obtain ⟨aU, an, hm⟩ := Zg hm
 refine DL_q rfl rfl (Exec.index_repE S100 rfl rfl rfl y an ?_)
 intro a8 aI ag aC
 refine ⟨rfl, ?_⟩
 refine DL_q rfl rfl (Zw (E := encGExpr) b.drew A102 rfl rfl rfl ag ?_)
 intro aN ao
 obtain ⟨aK, rfl, aw⟩ := encGExpr_val.1 ao
 refine ⟨rfl, ?_⟩
 obtain ⟨a1, ap, hm⟩ := Zg hm
 obtain ⟨p, q⟩ := a1
 replace hm := un2_eq hm
 refine DL_e rfl rfl (Tc rfl rfl rfl (Zi rfl (Zi rfl args_nil)) (ih ap b.drew x o aw).r ?_)
 rintro _ aR ⟨ay, g, i, rfl⟩
 refine ⟨ag_nil, ?_⟩
 refine DL_q rfl rfl (Zm (v := Value.tuple #[Vi (p), Value.bool (q)]) rfl rfl ⟨rfl, ?_⟩)
 refine DL_q rfl rfl (Exec.extract (v := Vi (p)) rfl rfl rfl ⟨rfl, ?_⟩)
 refine DL_q rfl rfl (Exec.extract (v := Value.bool (q)) rfl rfl rfl ⟨rfl, ?_⟩)
 refine DL_q rfl rfl (Zo (v := Vi (p)) rfl rfl ⟨rfl, ?_⟩)
 refine DL_done (Za rfl rfl (Zo (v := Value.bool (q)) rfl rfl (Zb (Ze (Zc (Zc (Zd (Za rfl rfl (Zm (v := Value.bool (q)) rfl rfl (Za rfl rfl (Exec.not rfl rfl (Zb (Ze ?_)))))))))))))
 rcases ite_some hm with ⟨l, hm⟩ | ⟨l, hm⟩
 ·refine W_cond_t rfl l (Zc (Zd (Za rfl rfl (Zo (v := Vi (0)) rfl rfl (Za rfl rfl (Zo (v := Value.bool (false)) rfl rfl (Zb (Ze (W_ret (at_ret ?_))))))))))
  have aD := Zu hm
  subst r
  refine ⟨_, ret2 rfl, ?_⟩
  exact ⟨ay, g, ((i).drop).drop, (tup2 rfl rfl)⟩
 refine W_cond_f rfl l ?_
 replace l := Zk l
 refine W_skip (Ze (Zc (W_dl (n0 := 10) (qs 0 5 (.e 5 [] (qs 6 4 .done))) hmix (by kernel_rfl) (by kernel_rfl) (DL_q rfl rfl (Exec.load_box_agg (ds := [c, d]) ((i.drew).f1) A33 rfl rfl rfl ⟨rfl, ?_⟩)))))
 refine DL_q rfl rfl (Zp F102_2 rfl rfl rfl ⟨rfl, ?_⟩)
 refine DL_q rfl rfl (Zn (i.drew) A100 rfl rfl rfl ⟨rfl, ?_⟩)
 obtain ⟨aV, aq, hm⟩ := Zg hm
 refine DL_q rfl rfl (Exec.index_repE S100 rfl rfl rfl (y.mono g) aq ?_)
 intro a9 aJ ah aE
 refine ⟨rfl, ?_⟩
 refine DL_q rfl rfl (Zw (E := encGExpr) i.drew A102 rfl rfl rfl ah ?_)
 intro aO ar
 obtain ⟨aL, rfl, ax⟩ := encGExpr_val.1 ar
 refine ⟨rfl, ?_⟩
 obtain ⟨a2, au, hm⟩ := Zg hm
 obtain ⟨t, u⟩ := a2
 replace hm := un2_eq hm
 refine DL_e rfl rfl (Tc rfl rfl rfl (Zi rfl (Zi rfl args_nil)) (ih au i.drew (x.mono g) (o.mono g) ax).r ?_)
 rintro _ aS ⟨az, ac, z, rfl⟩
 refine ⟨ag_nil, ?_⟩
 refine DL_q rfl rfl (Zm (v := Value.tuple #[Vi (t), Value.bool (u)]) rfl rfl ⟨rfl, ?_⟩)
 refine DL_q rfl rfl (Exec.extract (v := Vi (t)) rfl rfl rfl ⟨rfl, ?_⟩)
 refine DL_q rfl rfl (Exec.extract (v := Value.bool (u)) rfl rfl rfl ⟨rfl, ?_⟩)
 refine DL_q rfl rfl (Zo (v := Vi (t)) rfl rfl ⟨rfl, ?_⟩)
 refine DL_done (Za rfl rfl (Zo (v := Value.bool (u)) rfl rfl (Zb (Ze (Zc (Zc (Zd (Za rfl rfl (Zm (v := Value.bool (u)) rfl rfl (Za rfl rfl (Exec.not rfl rfl (Zb (Ze ?_)))))))))))))
 rcases ite_some hm with ⟨m, hm⟩ | ⟨m, hm⟩
 ·refine W_cond_t rfl m (Zc (Zd (Za rfl rfl (Zo (v := Vi (0)) rfl rfl (Za rfl rfl (Zo (v := Value.bool (false)) rfl rfl (Zb (Ze (W_ret (at_ret ?_))))))))))
  have aF := Zu hm
  subst r
  refine ⟨_, ret2 rfl, ?_⟩
  exact ⟨az, (Zt g ac), ((z).drop).drop, (tup2 rfl rfl)⟩
 refine W_cond_f rfl m ?_
 replace m := Zk m
 refine W_skip (Ze (Zc (Zd (Za rfl rfl (Zp F102_0 rfl rfl rfl (Za rfl rfl (Zn (z) A9 rfl rfl rfl (Za rfl rfl (Zm (v := Vi (p)) rfl rfl (Za rfl rfl (Zm (v := Vi (t)) rfl rfl ?_)))))))))))
 obtain ⟨a3, av, hm⟩ := Zg hm
 obtain ⟨ad, ae⟩ := a3
 replace hm := un2_eq hm
 refine Za rfl rfl (Tc rfl rfl rfl (Zi rfl (Zi rfl (Zi rfl args_nil))) (ground_combine_sim av z ).r ?_)
 rintro _ aT ⟨a0, ak, aj, rfl⟩
 refine Za rfl rfl (Exec.extract (v := Vi (ad)) rfl rfl rfl (Za rfl rfl (Exec.extract (v := Value.bool (ae)) rfl rfl rfl (Za rfl rfl (Zo (v := Vi (ad)) rfl rfl (Za rfl rfl (Zo (v := Value.bool (ae)) rfl rfl (Zb (Ze (W_ret ?_))))))))))
 have aG := Zu hm
 subst r
 refine ⟨_, ret2 rfl, ?_⟩
 exact ⟨a0, (Zt (Zt g ac) ak), ((aj).drop).drop, (tup2 rfl rfl)⟩
theorem ground_value_sim {fu : Nat} : ∀ {w0 w : World} {s : PHeap} {H : List Res} {b : GState} {a : GExpr} {d : Value} {f : Value} {g : Value} {r : Int × Bool} (hm : ground_value_p fu b a = some r) (hS : St w0 s (H) w) (j : SliceRep (encInt .i64) s d b.True) (k : SliceRep (encInt .i64) s f b.Values) (l : SliceRep encGExpr s g a.Kids), Calls Tryz.prog 62 #[Value.agg #[d, f], Value.agg #[Value.string (a.Op), Vi (a.N), g]] w fun e w' => ∃ v, e = .returned v ∧ ((un2 fun (h : Int) (i : Bool) => ∃ (c : PHeap) , PHeap.le s c ∧ St w0 c (H) w' ∧ v = Value.tuple #[Vi (h), Value.bool (i)]) r) := by
 induction fu with
 | zero => intros; rename_i hm _ _ _ _; rw [ground_value_p] at hm; cases hm
 | succ fu ih => exact ground_value_step ih
theorem ground_test_sim {w0 w : World} {s : PHeap} {H : List Res} {fu : Nat} {ag : GState} {b : GTest} {y : Value} {z : Value} {ac : Value} {ad : Value} {r : Bool} (hm : ground_test_p fu ag b = some r) (hS : St w0 s (H) w) (ah : SliceRep (encInt .i64) s y ag.True) (ai : SliceRep (encInt .i64) s z ag.Values) (al : SliceRep encGExpr s ac b.A.Kids) (am : SliceRep encGExpr s ad b.B.Kids) :
  Calls Tryz.prog 68 #[Value.agg #[y, z], Value.agg #[Value.string (b.Op), Value.string (b.A.Op), Vi (b.A.N), ac, Value.string (b.B.Op), Vi (b.B.N), ad]] w fun e w' => ∃ v, e = .returned v ∧ ((fun (a0 : Bool) => ∃ (aj : PHeap) , PHeap.le s aj ∧ St w0 aj (H) w' ∧ v = Value.bool (a0)) r) := by
 unfold ground_test_p at hm
 refine calls_of_W Tryz.func68 rfl rfl (Zc (Zd (Za rfl rfl (Exec.box (cs := [y, z]) hS rfl rfl rfl ?_))))
 intro a1 a6 ao
 refine Za rfl rfl (Exec.box (cs := [Value.string (b.Op), Value.string (b.A.Op), Vi (b.A.N), ac, Value.string (b.B.Op), Vi (b.B.N), ad]) ao rfl rfl rfl ?_)
 intro a2 a7 ae
 refine Za rfl rfl (Zo (v := Value.bool (false)) rfl rfl (Zb (Ze (Zc (Zd (Za rfl rfl (Exec.load_box_agg (ds := [y, z]) ((ae).f1) A33 rfl rfl rfl (Za rfl rfl (Zp F104_1 rfl rfl rfl (Za rfl rfl (Exec.load_box_agg (ds := [Value.string (b.A.Op), Vi (b.A.N), ac]) (ae) A102 rfl rfl rfl ?_)))))))))))
 obtain ⟨ay, av, hm⟩ := Zg hm
 obtain ⟨c, aa⟩ := ay
 replace hm := un2_eq hm
 refine Za rfl rfl (Tc rfl rfl rfl (Zi rfl (Zi rfl args_nil)) (ground_value_sim av ae ah ai al).r ?_)
 rintro _ a8 ⟨a5, ab, af, rfl⟩
 refine Za rfl rfl (Zm (v := Value.tuple #[Vi (c), Value.bool (aa)]) rfl rfl (Za rfl rfl (Exec.extract (v := Vi (c)) rfl rfl rfl (Za rfl rfl (Exec.extract (v := Value.bool (aa)) rfl rfl rfl (Za rfl rfl (Zo (v := Vi (c)) rfl rfl (Za rfl rfl (Zo (v := Value.bool (aa)) rfl rfl (Zb (Ze (Zc (Zd (Za rfl rfl (Exec.load_box_agg (ds := [y, z]) ((af).f1) A33 rfl rfl rfl (Za rfl rfl (Zp F104_2 rfl rfl rfl (Za rfl rfl (Exec.load_box_agg (ds := [Value.string (b.B.Op), Vi (b.B.N), ad]) (af) A102 rfl rfl rfl ?_)))))))))))))))))))
 obtain ⟨az, aw, hm⟩ := Zg hm
 obtain ⟨d, x⟩ := az
 replace hm := un2_eq hm
 refine Za rfl rfl (Tc rfl rfl rfl (Zi rfl (Zi rfl args_nil)) (ground_value_sim aw af (ah.mono ab) (ai.mono ab) (am.mono ab)).r ?_)
 rintro _ a9 ⟨m, aq, g, rfl⟩
 refine Za rfl rfl (Zm (v := Value.tuple #[Vi (d), Value.bool (x)]) rfl rfl (Za rfl rfl (Exec.extract (v := Vi (d)) rfl rfl rfl (Za rfl rfl (Exec.extract (v := Value.bool (x)) rfl rfl rfl (Za rfl rfl (Zo (v := Vi (d)) rfl rfl (Za rfl rfl (Zo (v := Value.bool (x)) rfl rfl (Zb (Ze (Zc (W_mid (M := fun f' w' => ∃ (ak : PHeap) , PHeap.le m ak ∧ St w0 ak (H) w' ∧ f' 4 = Value.bool ((aa && (x && (bif (decide (b.Op = (⟨#[60]⟩))) then ((decide (c < d)) || (bif (decide (b.Op = (⟨#[60, 61]⟩))) then ((decide (c ≤ d)) || ((decide (b.Op = (⟨#[61]⟩))) && decide (c = d))) else ((decide (b.Op = (⟨#[61]⟩))) && decide (c = d)))) else (bif (decide (b.Op = (⟨#[60, 61]⟩))) then ((decide (c ≤ d)) || ((decide (b.Op = (⟨#[61]⟩))) && decide (c = d))) else ((decide (b.Op = (⟨#[61]⟩))) && decide (c = d)))))))) ?_ ?_)))))))))))))
 ·refine Zd (WL_passes 2 rfl ?_)
  by_cases h : aa = true
  ·refine WL_run rfl (Zf rfl (Zx h)) rfl (Zm (v := Value.bool (x)) rfl rfl ?_)
   refine WL_passes 2 (by rw [h]; rfl) ?_
   by_cases a : x = true
   ·refine WL_run rfl (Zf rfl (Zx a)) rfl (Zp F104_0 rfl rfl rfl (WL_run rfl (Zf rfl (Zx a)) rfl (Zn (g) A9 rfl rfl rfl (WL_run rfl (Zf rfl (Zx a)) rfl (Exec.str_eql rfl rfl rfl (WL_run rfl (Zf rfl (Zx a)) rfl (Zm (v := Value.bool (decide (b.Op = (⟨#[60]⟩)))) rfl rfl ?_)))))))
    by_cases i : (decide (b.Op = (⟨#[60]⟩))) = true
    ·refine WL_run rfl (Zf rfl (Zx i)) rfl (Zm (v := Vi (c)) rfl rfl (WL_run rfl (Zf rfl (Zx i)) rfl (Zm (v := Vi (d)) rfl rfl (WL_run rfl (Zf rfl (Zx i)) rfl (Zq rfl rfl rfl (WL_run rfl (Zf rfl (Zx a)) rfl (Zs (v := Value.bool (decide (c < d))) rfl (Zx i) rfl (WL_run rfl (Zf rfl (Zx a)) rfl (Zm (v := Value.bool (decide (c < d))) rfl rfl ?_)))))))))
     by_cases j : (decide (c < d)) = true
     ·refine WL_passes 8 (by rw [j]; rfl) ?_
      refine WL_run rfl (Zf rfl (Zx a)) rfl (Zs (v := Value.bool (true)) rfl rfl rfl (WL_run rfl (Zf rfl (Zx a)) rfl (Zm (v := Value.bool (true)) rfl rfl (WL_passes 8 rfl (WL_run rfl (Zf rfl (Zx a)) rfl (Zs (v := Value.bool (true)) rfl rfl rfl ?_))))))
      refine WL_passes 2 (by rw [a]; rfl) ?_
      refine Zb (Ze ?_)
      exact ⟨m, (Zv _), ((g).drop).drop, (Zx (Eq.trans (and_t h) (Eq.trans (and_t a) (Eq.trans (cnd_t i) (or_t j))))).symm⟩
     replace j := Zk j
     refine WL_run rfl (Zf rfl (Zx j)) rfl (Zp F104_0 rfl rfl rfl (WL_run rfl (Zf rfl (Zx j)) rfl (Zn (g) A9 rfl rfl rfl (WL_run rfl (Zf rfl (Zx j)) rfl (Exec.str_eql rfl rfl rfl (WL_run rfl (Zf rfl (Zx j)) rfl (Zm (v := Value.bool (decide (b.Op = (⟨#[60, 61]⟩)))) rfl rfl ?_)))))))
     by_cases n : (decide (b.Op = (⟨#[60, 61]⟩))) = true
     ·refine WL_run rfl (Zf rfl (Zx n)) rfl (Zm (v := Vi (c)) rfl rfl (WL_run rfl (Zf rfl (Zx n)) rfl (Zm (v := Vi (d)) rfl rfl (WL_run rfl (Zf rfl (Zx n)) rfl (Exec.leq rfl rfl rfl (WL_run rfl (Zf rfl (Zx j)) rfl (Zs (v := Value.bool (decide (c ≤ d))) rfl (Zx n) rfl (WL_run rfl (Zf rfl (Zx a)) rfl (Exec.pick_f (v := Value.bool (decide (c ≤ d))) rfl (Zx j) rfl (WL_run rfl (Zf rfl (Zx a)) rfl (Zm (v := Value.bool (decide (c ≤ d))) rfl rfl ?_)))))))))))
      by_cases k : (decide (c ≤ d)) = true
      ·refine WL_passes 8 (by rw [k]; rfl) ?_
       refine WL_run rfl (Zf rfl (Zx a)) rfl (Zs (v := Value.bool (true)) rfl rfl rfl ?_)
       refine WL_passes 2 (by rw [a]; rfl) ?_
       refine Zb (Ze ?_)
       exact ⟨m, (Zv _), ((g).drop).drop, (Zx (Eq.trans (and_t h) (Eq.trans (and_t a) (Eq.trans (cnd_t i) (Eq.trans (or_f j) (Eq.trans (cnd_t n) (or_t k))))))).symm⟩
      replace k := Zk k
      refine WL_run rfl (Zf rfl (Zx k)) rfl (Zp F104_0 rfl rfl rfl (WL_run rfl (Zf rfl (Zx k)) rfl (Zn (g) A9 rfl rfl rfl (WL_run rfl (Zf rfl (Zx k)) rfl (Exec.str_eql rfl rfl rfl (WL_run rfl (Zf rfl (Zx k)) rfl (Zm (v := Value.bool (decide (b.Op = (⟨#[61]⟩)))) rfl rfl ?_)))))))
      by_cases p : (decide (b.Op = (⟨#[61]⟩))) = true
      ·refine WL_run rfl (Zf rfl (Zx p)) rfl (Zm (v := Vi (c)) rfl rfl (WL_run rfl (Zf rfl (Zx p)) rfl (Zm (v := Vi (d)) rfl rfl (WL_run rfl (Zf rfl (Zx p)) rfl (Exec.eql rfl rfl rfl (WL_run rfl (Zf rfl (Zx k)) rfl (Zs (v := Value.bool (decide (c = d))) rfl (Zx p) rfl (WL_run rfl (Zf rfl (Zx a)) rfl (Exec.pick_f (v := Value.bool (decide (c = d))) rfl (Zx k) rfl ?_)))))))))
       refine WL_passes 2 (by rw [a]; rfl) ?_
       refine Zb (Ze ?_)
       exact ⟨m, (Zv _), ((g).drop).drop, (Zx (Eq.trans (and_t h) (Eq.trans (and_t a) (Eq.trans (cnd_t i) (Eq.trans (or_f j) (Eq.trans (cnd_t n) (Eq.trans (or_f k) (and_t p)))))))).symm⟩
      replace p := Zk p
      refine WL_passes 3 (by rw [p]; rfl) ?_
      refine WL_run rfl (Zf rfl (Zx k)) rfl (Exec.pick_f (v := Value.bool (false)) rfl rfl rfl (WL_run rfl (Zf rfl (Zx a)) rfl (Exec.pick_f (v := Value.bool (false)) rfl (Zx k) rfl ?_)))
      refine WL_passes 2 (by rw [a]; rfl) ?_
      refine Zb (Ze ?_)
      exact ⟨m, (Zv _), ((g).drop).drop, (Zx (Eq.trans (and_t h) (Eq.trans (and_t a) (Eq.trans (cnd_t i) (Eq.trans (or_f j) (Eq.trans (cnd_t n) (Eq.trans (or_f k) (and_f p)))))))).symm⟩
     replace n := Zk n
     refine WL_passes 3 (by rw [n]; rfl) ?_
     refine WL_run rfl (Zf rfl (Zx j)) rfl (Exec.pick_f (v := Value.bool (false)) rfl rfl rfl (WL_run rfl (Zf rfl (Zx a)) rfl (Exec.pick_f (v := Value.bool (false)) rfl (Zx j) rfl (WL_run rfl (Zf rfl (Zx a)) rfl (Zm (v := Value.bool (false)) rfl rfl (WL_run rfl (Zf rfl rfl) rfl (Zp F104_0 rfl rfl rfl (WL_run rfl (Zf rfl rfl) rfl (Zn (g) A9 rfl rfl rfl (WL_run rfl (Zf rfl rfl) rfl (Exec.str_eql rfl rfl rfl (WL_run rfl (Zf rfl rfl) rfl (Zm (v := Value.bool (decide (b.Op = (⟨#[61]⟩)))) rfl rfl ?_)))))))))))))
     by_cases q : (decide (b.Op = (⟨#[61]⟩))) = true
     ·refine WL_run rfl (Zf rfl (Zx q)) rfl (Zm (v := Vi (c)) rfl rfl (WL_run rfl (Zf rfl (Zx q)) rfl (Zm (v := Vi (d)) rfl rfl (WL_run rfl (Zf rfl (Zx q)) rfl (Exec.eql rfl rfl rfl (WL_run rfl (Zf rfl rfl) rfl (Zs (v := Value.bool (decide (c = d))) rfl (Zx q) rfl (WL_run rfl (Zf rfl (Zx a)) rfl (Exec.pick_f (v := Value.bool (decide (c = d))) rfl rfl rfl ?_)))))))))
      refine WL_passes 2 (by rw [a]; rfl) ?_
      refine Zb (Ze ?_)
      exact ⟨m, (Zv _), ((g).drop).drop, (Zx (Eq.trans (and_t h) (Eq.trans (and_t a) (Eq.trans (cnd_t i) (Eq.trans (or_f j) (Eq.trans (cnd_f n) (and_t q))))))).symm⟩
     replace q := Zk q
     refine WL_passes 3 (by rw [q]; rfl) ?_
     refine WL_run rfl (Zf rfl rfl) rfl (Exec.pick_f (v := Value.bool (false)) rfl rfl rfl (WL_run rfl (Zf rfl (Zx a)) rfl (Exec.pick_f (v := Value.bool (false)) rfl rfl rfl ?_)))
     refine WL_passes 2 (by rw [a]; rfl) ?_
     refine Zb (Ze ?_)
     exact ⟨m, (Zv _), ((g).drop).drop, (Zx (Eq.trans (and_t h) (Eq.trans (and_t a) (Eq.trans (cnd_t i) (Eq.trans (or_f j) (Eq.trans (cnd_f n) (and_f q))))))).symm⟩
    replace i := Zk i
    refine WL_passes 3 (by rw [i]; rfl) ?_
    refine WL_run rfl (Zf rfl (Zx a)) rfl (Exec.pick_f (v := Value.bool (false)) rfl rfl rfl (WL_run rfl (Zf rfl (Zx a)) rfl (Zm (v := Value.bool (false)) rfl rfl (WL_run rfl (Zf rfl rfl) rfl (Zp F104_0 rfl rfl rfl (WL_run rfl (Zf rfl rfl) rfl (Zn (g) A9 rfl rfl rfl (WL_run rfl (Zf rfl rfl) rfl (Exec.str_eql rfl rfl rfl (WL_run rfl (Zf rfl rfl) rfl (Zm (v := Value.bool (decide (b.Op = (⟨#[60, 61]⟩)))) rfl rfl ?_)))))))))))
    by_cases o : (decide (b.Op = (⟨#[60, 61]⟩))) = true
    ·refine WL_run rfl (Zf rfl (Zx o)) rfl (Zm (v := Vi (c)) rfl rfl (WL_run rfl (Zf rfl (Zx o)) rfl (Zm (v := Vi (d)) rfl rfl (WL_run rfl (Zf rfl (Zx o)) rfl (Exec.leq rfl rfl rfl (WL_run rfl (Zf rfl rfl) rfl (Zs (v := Value.bool (decide (c ≤ d))) rfl (Zx o) rfl (WL_run rfl (Zf rfl (Zx a)) rfl (Exec.pick_f (v := Value.bool (decide (c ≤ d))) rfl rfl rfl (WL_run rfl (Zf rfl (Zx a)) rfl (Zm (v := Value.bool (decide (c ≤ d))) rfl rfl ?_)))))))))))
     by_cases l : (decide (c ≤ d)) = true
     ·refine WL_passes 8 (by rw [l]; rfl) ?_
      refine WL_run rfl (Zf rfl (Zx a)) rfl (Zs (v := Value.bool (true)) rfl rfl rfl ?_)
      refine WL_passes 2 (by rw [a]; rfl) ?_
      refine Zb (Ze ?_)
      exact ⟨m, (Zv _), ((g).drop).drop, (Zx (Eq.trans (and_t h) (Eq.trans (and_t a) (Eq.trans (cnd_f i) (Eq.trans (cnd_t o) (or_t l)))))).symm⟩
     replace l := Zk l
     refine WL_run rfl (Zf rfl (Zx l)) rfl (Zp F104_0 rfl rfl rfl (WL_run rfl (Zf rfl (Zx l)) rfl (Zn (g) A9 rfl rfl rfl (WL_run rfl (Zf rfl (Zx l)) rfl (Exec.str_eql rfl rfl rfl (WL_run rfl (Zf rfl (Zx l)) rfl (Zm (v := Value.bool (decide (b.Op = (⟨#[61]⟩)))) rfl rfl ?_)))))))
     by_cases t : (decide (b.Op = (⟨#[61]⟩))) = true
     ·refine WL_run rfl (Zf rfl (Zx t)) rfl (Zm (v := Vi (c)) rfl rfl (WL_run rfl (Zf rfl (Zx t)) rfl (Zm (v := Vi (d)) rfl rfl (WL_run rfl (Zf rfl (Zx t)) rfl (Exec.eql rfl rfl rfl (WL_run rfl (Zf rfl (Zx l)) rfl (Zs (v := Value.bool (decide (c = d))) rfl (Zx t) rfl (WL_run rfl (Zf rfl (Zx a)) rfl (Exec.pick_f (v := Value.bool (decide (c = d))) rfl (Zx l) rfl ?_)))))))))
      refine WL_passes 2 (by rw [a]; rfl) ?_
      refine Zb (Ze ?_)
      exact ⟨m, (Zv _), ((g).drop).drop, (Zx (Eq.trans (and_t h) (Eq.trans (and_t a) (Eq.trans (cnd_f i) (Eq.trans (cnd_t o) (Eq.trans (or_f l) (and_t t))))))).symm⟩
     replace t := Zk t
     refine WL_passes 3 (by rw [t]; rfl) ?_
     refine WL_run rfl (Zf rfl (Zx l)) rfl (Exec.pick_f (v := Value.bool (false)) rfl rfl rfl (WL_run rfl (Zf rfl (Zx a)) rfl (Exec.pick_f (v := Value.bool (false)) rfl (Zx l) rfl ?_)))
     refine WL_passes 2 (by rw [a]; rfl) ?_
     refine Zb (Ze ?_)
     exact ⟨m, (Zv _), ((g).drop).drop, (Zx (Eq.trans (and_t h) (Eq.trans (and_t a) (Eq.trans (cnd_f i) (Eq.trans (cnd_t o) (Eq.trans (or_f l) (and_f t))))))).symm⟩
    replace o := Zk o
    refine WL_passes 3 (by rw [o]; rfl) ?_
    refine WL_run rfl (Zf rfl rfl) rfl (Exec.pick_f (v := Value.bool (false)) rfl rfl rfl (WL_run rfl (Zf rfl (Zx a)) rfl (Exec.pick_f (v := Value.bool (false)) rfl rfl rfl (WL_run rfl (Zf rfl (Zx a)) rfl (Zm (v := Value.bool (false)) rfl rfl (WL_run rfl (Zf rfl rfl) rfl (Zp F104_0 rfl rfl rfl (WL_run rfl (Zf rfl rfl) rfl (Zn (g) A9 rfl rfl rfl (WL_run rfl (Zf rfl rfl) rfl (Exec.str_eql rfl rfl rfl (WL_run rfl (Zf rfl rfl) rfl (Zm (v := Value.bool (decide (b.Op = (⟨#[61]⟩)))) rfl rfl ?_)))))))))))))
    by_cases u : (decide (b.Op = (⟨#[61]⟩))) = true
    ·refine WL_run rfl (Zf rfl (Zx u)) rfl (Zm (v := Vi (c)) rfl rfl (WL_run rfl (Zf rfl (Zx u)) rfl (Zm (v := Vi (d)) rfl rfl (WL_run rfl (Zf rfl (Zx u)) rfl (Exec.eql rfl rfl rfl (WL_run rfl (Zf rfl rfl) rfl (Zs (v := Value.bool (decide (c = d))) rfl (Zx u) rfl (WL_run rfl (Zf rfl (Zx a)) rfl (Exec.pick_f (v := Value.bool (decide (c = d))) rfl rfl rfl ?_)))))))))
     refine WL_passes 2 (by rw [a]; rfl) ?_
     refine Zb (Ze ?_)
     exact ⟨m, (Zv _), ((g).drop).drop, (Zx (Eq.trans (and_t h) (Eq.trans (and_t a) (Eq.trans (cnd_f i) (Eq.trans (cnd_f o) (and_t u)))))).symm⟩
    replace u := Zk u
    refine WL_passes 3 (by rw [u]; rfl) ?_
    refine WL_run rfl (Zf rfl rfl) rfl (Exec.pick_f (v := Value.bool (false)) rfl rfl rfl (WL_run rfl (Zf rfl (Zx a)) rfl (Exec.pick_f (v := Value.bool (false)) rfl rfl rfl ?_)))
    refine WL_passes 2 (by rw [a]; rfl) ?_
    refine Zb (Ze ?_)
    exact ⟨m, (Zv _), ((g).drop).drop, (Zx (Eq.trans (and_t h) (Eq.trans (and_t a) (Eq.trans (cnd_f i) (Eq.trans (cnd_f o) (and_f u)))))).symm⟩
   replace a := Zk a
   refine WL_passes 30 (by rw [a]; rfl) ?_
   refine Zb (Ze ?_)
   exact ⟨m, (Zv _), ((g).drop).drop, (Zx (Eq.trans (and_t h) (and_f a))).symm⟩
  replace h := Zk h
  refine WL_passes 33 (by rw [h]; rfl) ?_
  refine Zb (Ze ?_)
  exact ⟨m, (Zv _), ((g).drop).drop, (Zx (and_f h)).symm⟩
 intro a4 aA an
 obtain ⟨ax, ar, ap, au⟩ := an
 refine (Ze (W_ret ?_))
 have a3 := Zu hm
 subst r
 refine ⟨_, ret1 rfl, ?_⟩
 exact ⟨ax, (Zt (Zt ab aq) ar), ap, au⟩
theorem N67 : (Tryz.f67.name == "runtime.NumGoroutine") = false := by kernel_rfl
theorem ground_holds_c3_sim {w0 w : World} {s : PHeap} {H : List Res} {fu : Nat} {a : GTest} {g : GState} {b : Value} {c : Value} {f h : Nat} {r : Bool} (hm : ground_holds_c3_p fu a g = some r) (hS : St w0 s (H) w) (j : SliceRep encGExpr s b a.A.Kids) (k : SliceRep encGExpr s c a.B.Kids) (l : At s f h encGState g) :
  Calls Tryz.prog 67 #[Value.agg #[Value.string (a.Op), Value.string (a.A.Op), Vi (a.A.N), b, Value.string (a.B.Op), Vi (a.B.N), c], Value.pointer (some ⟨f, h, none⟩)] w fun e w' => ∃ v, e = .returned v ∧ ((fun (x : Bool) => ∃ (i : PHeap) , PHeap.le s i ∧ St w0 i (H) w' ∧ v = Value.bool (x)) r) := by
 unfold ground_holds_c3_p at hm
 refine calls_of_W Tryz.func67 rfl rfl (Zc (Zd (Za rfl rfl (Exec.box (cs := [Value.string (a.Op), Value.string (a.A.Op), Vi (a.A.N), b, Value.string (a.B.Op), Vi (a.B.N), c]) hS rfl rfl rfl ?_))))
 intro z ae d
 refine Za rfl rfl (Zo (v := Value.bool (false)) rfl rfl (Zb (Ze (Zc (Zd (Za rfl rfl (Zw (E := encGState) d A33 rfl rfl rfl l ?_)))))))
 intro ad o
 obtain ⟨ab, ac, rfl, q, t⟩ := encGState_val.1 o
 refine Za rfl rfl (Exec.load_box_agg (ds := [Value.string (a.Op), Value.string (a.A.Op), Vi (a.A.N), b, Value.string (a.B.Op), Vi (a.B.N), c]) (d) A104 rfl rfl rfl ?_)
 obtain ⟨y, p, hm⟩ := Zg hm
 refine Za rfl rfl (Tc rfl rfl rfl (Zi rfl (Zi rfl args_nil)) (ground_test_sim p d q t j k).r ?_)
 rintro _ af ⟨u, n, m, rfl⟩
 refine Za rfl rfl (Exec.not rfl rfl (Za rfl rfl (Zo (v := Value.bool (!y)) rfl rfl (Zb (Ze (W_ret ?_))))))
 have aa := Zu hm
 subst r
 refine ⟨_, ret1 rfl, ?_⟩
 exact ⟨u, n, (m).drop, rfl⟩
theorem slices_IndexFunc_apiGTest_holds_c3_sim {w0 w : World} {s : PHeap} {H : List Res} {fu : Nat} {l : (List GTest)} {o : GState} {c : Value} {d i : Nat} {r : Int} (hm : slices_IndexFunc_apiGTest_holds_c3_p fu l o = some r) (hS : St w0 s (H) w) (m : SliceRep encGTest s c l) (ah : At s d i encGState o) :
  Calls Tryz.prog 84 #[c, Value.func (.func 67) #[] #[Value.pointer (some ⟨d, i, none⟩)]] w fun e w' => ∃ v, e = .returned v ∧ ((fun (aA : Int) => ∃ (ad : PHeap) , PHeap.le s ad ∧ St w0 ad (H) w' ∧ v = Vi (aA)) r) := by
 unfold slices_IndexFunc_apiGTest_holds_c3_p at hm
 refine calls_of_W Tryz.func84 rfl rfl (Zc (Zd (Za rfl rfl (Zo (v := Vi (0)) rfl rfl (Zb (Ze (Zc (Zc (Zd (Za rfl rfl (Zm (v := c) rfl rfl (Za rfl rfl (Zr S57 rfl rfl m (Za rfl rfl (Zm (v := Vi (0)) rfl rfl (Zb (Ze ?_)))))))))))))))))
 obtain ⟨p, aj, av, ar, ap⟩ := ctl_some hm
 refine W_mid (M := fun f' w' => ∃ s', (p = .next s' ∨ p = .brk s') ∧ (fun (_ : Unit) => ∃ (ae : PHeap) , PHeap.le s ae ∧ St w0 ae (H) w' ∧ f' 0 = c ∧ f' 1 = Value.func (.func 67) #[] #[Value.pointer (some ⟨d, i, none⟩)] ∧ f' 7 = Vi ((l.length : Int))) s') ?_ ?_
 ·refine W_block (W_forC (fun k' s' f' w' => (fun (_ : Unit) => ∃ (af : PHeap) , PHeap.le s af ∧ St w0 af (H) w' ∧ f' 0 = c ∧ f' 1 = Value.func (.func 67) #[] #[Value.pointer (some ⟨d, i, none⟩)] ∧ f' 7 = Vi ((l.length : Int)) ∧ f' 8 = Vi (k' : Int)) s') aj ?_ ?_ ?_)
  ·exact ⟨s, (Zv _), hS, rfl, rfl, rfl, rfl⟩
  ·intro b aO q aG aU aq ak a aw
   obtain ⟨aN, j, t, z, aa, ab, n⟩ := ak
   refine Zc (Zd (Za rfl rfl (Zq rfl n ab (Zb (Ze (Zc (W_true (Zx (decide_eq_true (by omega))) (W_skip (Ze (Zc (W_block (Zc (Zd (Za rfl rfl (Zm (v := Vi ((b : Int))) rfl n (Za rfl rfl (Zo (v := Vi ((b : Int))) rfl rfl (Zb (Ze (Zc (Zd (Za rfl rfl (Zm (v := Value.func (.func 67) #[] #[Value.pointer (some ⟨d, i, none⟩)]) rfl aa (Za rfl rfl (Zm (v := c) rfl z (Za rfl rfl (Zm (v := Vi ((b : Int))) rfl rfl ?_)))))))))))))))))))))))))))
   obtain ⟨aY, a2, a⟩ := Zg a
   refine Za rfl rfl (Exec.index_rep S57 rfl rfl rfl (m.mono j) a2 ?_)
   intro aB aJ ai
   refine Za rfl rfl (Zw (E := encGTest) t A104 rfl rfl rfl ai ?_)
   intro aT a3
   obtain ⟨aR, aS, rfl, a5, a6⟩ := encGTest_val.1 a3
   obtain ⟨aZ, a4, a⟩ := Zg a
   refine Za rfl rfl (Exec.callc rfl rfl Tryz.func67 rfl N67 (Zi rfl args_nil) rfl ((ground_holds_c3_sim a4 t a5 a6 (ah.mono j)).mono ?_))
   rintro _ aV ⟨_, rfl, ⟨ag, y, u, rfl⟩⟩
   refine ⟨_, rfl, ?_⟩
   refine Zb (Ze ?_)
   rcases ite_some a with ⟨g, a⟩ | ⟨g, a⟩
   ·refine W_cond_t rfl g (Zc (Zd (Za rfl rfl (Zm (v := Vi ((b : Int))) rfl rfl (Za rfl rfl (Zo (v := Vi ((b : Int))) rfl rfl (Zb (Ze (W_ret (ib_ret (at_ret (at_ret (ib_ret (at_ret (at_ret ?_)))))))))))))))
    have aC := Zu a
    subst q
    have au := av _ (aw (by intro _ h; cases h))
    have aD := Zu au
    subst r
    refine ⟨_, ret1 rfl, ?_⟩
    exact ⟨ag, (Zt j y), u, rfl⟩
   refine W_cond_f rfl g ?_
   replace g := Zk g
   refine W_skip (ib_normal (Ze (Zd (Za rfl rfl (Exec.add rfl n rfl (Za rfl rfl (Zm (v := Vi (IntKind.i64.wrap ((b : Int) + 1))) rfl rfl (Zb (Ze ?_)))))))))
   have aE := Zu a
   subst q
   refine ⟨_, rfl, ?_⟩; exact ⟨ag, (Zt j y), u, z, aa, ab, (Eq.trans rfl (wrap_up aq (SliceRep.le m)))⟩
  intro aP aH aW al ax
  obtain ⟨a7, ay, an, a0, a1, ac, a9⟩ := al
  refine Zc (Zd (Za rfl rfl (Zq rfl a9 ac (Zb (Ze (Zc (W_false (Zx (decide_eq_false (by omega))) (W_exit (at_exit (at_exit (ib_here (Ze ?_))))))))))))
  refine ⟨_, .inl ax, ?_⟩; exact ⟨a7, ay, an, a0, a1, ac⟩
 rintro aI aX ⟨aQ, x, am⟩
 have hm := x.elim (ar _) (ap _)
 clear x
 obtain ⟨a8, az, ao, aK, aL, aM⟩ := am
 refine (Ze (Zc (Zd (Za rfl rfl (Zo (v := Vi ((-1))) rfl rfl (Zb (Ze (W_ret ?_))))))))
 have aF := Zu hm
 subst r
 refine ⟨_, ret1 rfl, ?_⟩
 exact ⟨a8, az, ao, rfl⟩
theorem slices_ContainsFunc_apiGTest_holds_c3_sim {w0 w : World} {s : PHeap} {H : List Res} {fu : Nat} {g : (List GTest)} {d : GState} {c : Value} {a b : Nat} {r : Bool} (hm : slices_ContainsFunc_apiGTest_holds_c3_p fu g d = some r) (hS : St w0 s (H) w) (h : SliceRep encGTest s c g) (i : At s a b encGState d) :
  Calls Tryz.prog 66 #[c, Value.func (.func 67) #[] #[Value.pointer (some ⟨a, b, none⟩)]] w fun e w' => ∃ v, e = .returned v ∧ ((fun (n : Bool) => ∃ (f : PHeap) , PHeap.le s f ∧ St w0 f (H) w' ∧ v = Value.bool (n)) r) := by
 unfold slices_ContainsFunc_apiGTest_holds_c3_p at hm
 refine calls_of_W Tryz.func66 rfl rfl (Zc (Zd (Za rfl rfl (Zo (v := Value.bool (false)) rfl rfl (Zb (Ze (Zc (Zd (Za rfl rfl (Zm (v := c) rfl rfl (Za rfl rfl (Zm (v := Value.func (.func 67) #[] #[Value.pointer (some ⟨a, b, none⟩)]) rfl rfl ?_))))))))))))
 obtain ⟨o, l, hm⟩ := Zg hm
 refine Za rfl rfl (Tc rfl rfl rfl (Zi rfl (Zi rfl args_nil)) (slices_IndexFunc_apiGTest_holds_c3_sim l hS h i).r ?_)
 rintro _ q ⟨m, k, j, rfl⟩
 refine Za rfl rfl (Exec.geq rfl rfl rfl (Za rfl rfl (Zo (v := Value.bool (decide (0 ≤ o))) rfl rfl (Zb (Ze (W_ret ?_))))))
 have p := Zu hm
 subst r
 refine ⟨_, ret1 rfl, ?_⟩
 exact ⟨m, k, j, rfl⟩
theorem ground_holds_sim {w0 w : World} {s : PHeap} {H : List Res} {fu : Nat} {l : GState} {h : Cond} {m : Value} {n : Value} {q : Value} {t : Value} {u : Value} {r : Bool} (hm : ground_holds_p fu l h = some r) (hS : St w0 s (H) w) (ac : SliceRep (encInt .i64) s m l.True) (ad : SliceRep (encInt .i64) s n l.Values) (ae : SliceRep (encInt .i64) s q h.Pos) (af : SliceRep (encInt .i64) s t h.Neg) (ag : SliceRep encGTest s u h.Tests) :
  Calls Tryz.prog 42 #[Value.agg #[m, n], Value.agg #[q, t, u]] w fun e w' => ∃ v, e = .returned v ∧ ((fun (a1 : Bool) => ∃ (aa : PHeap) , PHeap.le s aa ∧ St w0 aa (H) w' ∧ v = Value.bool (a1)) r) := by
 unfold ground_holds_p at hm
 refine calls_of_W Tryz.func42 rfl rfl (Zc (Zd (Za rfl rfl (Exec.box (cs := [m, n]) hS rfl rfl rfl ?_))))
 intro x aA ai
 refine Za rfl rfl (Exec.box (cs := [q, t, u]) ai rfl rfl rfl ?_)
 intro a3 aB aj
 refine Za rfl rfl (Zo (v := Value.bool (false)) rfl rfl (Zb (Ze (Zc (Zd ?_)))))
 obtain ⟨aw, j, ak, p⟩ := St.freezeVar (E := encGState) (y := l) (aj).f1 ⟨[m], [n], rfl, ⟨_, rfl, ac⟩, ⟨_, rfl, ad⟩⟩
 refine Za rfl rfl (Exec.makeFunc rfl (Zi rfl args_nil) (Za rfl rfl (Exec.alloc (cs := [Value.nilFunc]) ak Z113 rfl rfl ?_)))
 intro a4 aC al
 refine Za rfl rfl (Exec.store_box (ds := [Value.func (.func 63) #[] #[Value.pointer (some ⟨x, 0, none⟩)]]) (es := [Value.func (.func 63) #[] #[Value.pointer (some ⟨x, 0, none⟩)]]) al A113 rfl rfl rfl rfl (Zj rfl one_nil) (Nat.le_of_ble_eq_true rfl) rfl ?_)
 intro aD z
 refine Zb (Ze (Zc ?_))
 obtain ⟨g, a, hm⟩ := Zg hm
 refine W_mid (M := fun f' w' => (fun (g : Bool) => ∃ (ab : PHeap) , PHeap.le aw ab ∧ St w0 ab (H) w' ∧ f' 4 = Value.bool (g)) g) ?_ ?_
 ·refine Zd (Za rfl rfl (Zp F59_0 rfl rfl rfl (Za rfl rfl (Zn ((z).f1) A24 rfl rfl rfl (Za rfl rfl (Exec.makeFunc rfl (Zi rfl args_nil) ?_))))))
  obtain ⟨a2, ar, a⟩ := Zg a
  refine Za rfl rfl (Tc rfl rfl rfl (Zi rfl (Zi rfl args_nil)) (slices_ContainsFunc_int_holds_c2_sim ar z (ae.mono j) p).r ?_)
  rintro _ aE ⟨ax, d, i, rfl⟩
  refine Za rfl rfl (Exec.not rfl rfl (Za rfl rfl (Zm (v := Value.bool (!a2)) rfl rfl ?_)))
  rcases ite_some a with ⟨b, a⟩ | ⟨b, a⟩
  ·refine WL_run rfl (Zf rfl (Zx b)) rfl (Zp F59_1 rfl rfl rfl (WL_run rfl (Zf rfl (Zx b)) rfl (Zn ((i).f1) A24 rfl rfl rfl (WL_run rfl (Zf rfl (Zx b)) rfl (Zn (i) A113 rfl rfl rfl ?_)))))
   obtain ⟨aI, au, a⟩ := Zg a
   refine WL_run rfl (Zf rfl (Zx b)) rfl (Tc rfl rfl rfl (Zi rfl (Zi rfl args_nil)) (slices_ContainsFunc_int_holds_c1_sim au i (af.mono (Zt j d)) (p.mono d)).r ?_)
   rintro _ aF ⟨ay, k, o, rfl⟩
   refine WL_run rfl (Zf rfl (Zx b)) rfl (Exec.not rfl rfl ?_)
   refine WL_passes 2 (by rw [b]; rfl) ?_
   rcases ite_some a with ⟨c, a⟩ | ⟨c, a⟩
   ·refine WL_run rfl (Zf rfl (Zx c)) rfl (Zp F59_2 rfl rfl rfl (WL_run rfl (Zf rfl (Zx c)) rfl (Zn ((o).f1) A57 rfl rfl rfl (WL_run rfl (Zf rfl (Zx c)) rfl (Exec.makeFunc rfl (Zi rfl args_nil) ?_)))))
    obtain ⟨aJ, av, a⟩ := Zg a
    refine WL_run rfl (Zf rfl (Zx c)) rfl (Tc rfl rfl rfl (Zi rfl (Zi rfl args_nil)) (slices_ContainsFunc_apiGTest_holds_c3_sim av o (ag.mono (Zt (Zt j d) k)) (p.mono (Zt d k))).r ?_)
    rintro _ aG ⟨az, ao, am, rfl⟩
    refine WL_run rfl (Zf rfl (Zx c)) rfl (Exec.not rfl rfl ?_)
    refine WL_passes 2 (by rw [c]; rfl) ?_
    refine Zb (Ze ?_)
    have a5 := Zu a
    subst g
    exact ⟨az, (Zt (Zt d k) ao), ((am).drop).drop, rfl⟩
   replace c := Zk c
   refine WL_passes 7 (by rw [c]; rfl) ?_
   refine Zb (Ze ?_)
   have a6 := Zu a
   subst g
   exact ⟨ay, (Zt d k), ((o).drop).drop, rfl⟩
  replace b := Zk b
  refine WL_passes 14 (by rw [b]; rfl) ?_
  refine Zb (Ze ?_)
  have a7 := Zu a
  subst g
  exact ⟨ax, d, ((i).drop).drop, rfl⟩
 intro a9 aH ah
 obtain ⟨a0, ap, an, aq⟩ := ah
 refine (Ze (W_ret ?_))
 have a8 := Zu hm
 subst r
 refine ⟨_, ret1 rfl, ?_⟩
 exact ⟨a0, (Zt j ap), an, aq⟩
theorem ground_assigned_sim {w0 w : World} {s : PHeap} {H : List Res} {fu : Nat} {af : Ground} {aL : GState} {n : Int} {y : Value} {z : Value} {aa : Value} {ab : Value} {ac : Value} {q : Value} {t : Value} {r : (List Int) × (Option Int)} (hm : ground_assigned_p fu af aL n = some r) (hS : St w0 s (H) w) (aQ : SliceRep encAtom s y af.Atoms) (av : SliceRep encGFluent s z af.Fluents) (aR : SliceRep (encInt .i64) s aa af.Init) (aS : SliceRep encCond s ab af.Goal) (aw : SliceRep encGOp s ac af.Ops) (aC : SliceRep (encInt .i64) s q aL.True) (ax : SliceRep (encInt .i64) s t aL.Values) :
  Calls Tryz.prog 41 #[Value.agg #[y, z, aa, ab, ac], Value.agg #[q, t], Vi (n)] w fun e w' => ∃ v, e = .returned v ∧ ((un2 fun (cy : (List Int)) (cz : (Option Int)) => ∃ (aJ : PHeap) (bt : Value), PHeap.le s aJ ∧ St w0 aJ (H) w' ∧ v = Value.tuple #[bt, errV 45 (cz)] ∧ SliceRep (encInt .i64) aJ bt cy) r) := by
 unfold ground_assigned_p at hm
 refine calls_of_W Tryz.func41 rfl rfl (Zc (Zd (Za rfl rfl (Exec.box (cs := [y, z, aa, ab, ac]) hS rfl rfl rfl ?_))))
 intro ad da b5
 refine Za rfl rfl (Exec.box (cs := [q, t]) b5 rfl rfl rfl ?_)
 intro ae db aX
 refine Za rfl rfl (Zo (v := Value.slice none 0 0) rfl rfl (Za rfl rfl (Zo (v := errV 45 (none)) rfl rfl (Zb (Ze (Zc (Zc (Zd (Za rfl rfl (Exec.load_box_agg (ds := [y, z, aa, ab, ac]) ((aX).f1) A28 rfl rfl rfl ?_))))))))))
 obtain ⟨du, ca, hm⟩ := Zg hm
 refine Za rfl rfl (Tc rfl rfl rfl (Zi rfl args_nil) (ground_Valid_sim ca aX aQ av aR aS aw).r ?_)
 rintro _ dc ⟨a9, a, ay, rfl⟩
 refine Za rfl rfl (Exec.not rfl rfl (Zb (Ze ?_)))
 rcases ite_some hm with ⟨ak, hm⟩ | ⟨ak, hm⟩
 ·refine W_cond_t rfl ak (Zc (Zd (Za rfl rfl (Exec.makeInterface C45 rfl rfl (Za rfl rfl (Zo (v := Value.slice none 0 0) rfl rfl (Za rfl rfl (Zo (v := errV 45 (some 2)) rfl rfl (Zb (Ze (W_ret (at_ret ?_))))))))))))
  have c6 := Zu hm
  subst r
  refine ⟨_, ret2 rfl, ?_⟩
  exact ⟨a9, (Value.slice none 0 0), a, ((ay).drop).drop, (tup2 rfl rfl), (SliceRep.nil _ _)⟩
 refine W_cond_f rfl ak ?_
 replace ak := Zk ak
 refine W_skip (Ze (Zc (Zc (W_mid (M := fun f' w' => ∃ (bn : PHeap) , PHeap.le a9 bn ∧ St w0 bn (Res.box ad 28 [y, z, aa, ab, ac] :: Res.box ae 33 [q, t] :: H) w' ∧ f' 2 = Vi (n) ∧ f' 3 = Value.pointer (some ⟨ad, 0, none⟩) ∧ f' 4 = Value.pointer (some ⟨ae, 0, none⟩) ∧ f' 26 = Value.bool (((decide (n < 0)) || decide ((af.Ops.length : Int) ≤ n)))) ?_ ?_))))
 ·refine Zd (Za rfl rfl (Zm (v := Vi (n)) rfl rfl (Za rfl rfl (Zq rfl rfl rfl (Za rfl rfl (Zm (v := Value.bool (decide (n < 0))) rfl rfl ?_))))))
  by_cases j : (decide (n < 0)) = true
  ·refine WL_passes 6 (by rw [j]; rfl) ?_
   refine Zb (Ze ?_)
   exact ⟨a9, (Zv _), (ay).f1, rfl, rfl, rfl, (Zx (or_t j)).symm⟩
  replace j := Zk j
  refine WL_run rfl (Zf rfl (Zx j)) rfl (Zm (v := Vi (n)) rfl rfl (WL_run rfl (Zf rfl (Zx j)) rfl (Zp F28_4 rfl rfl rfl (WL_run rfl (Zf rfl (Zx j)) rfl (Zn ((ay).f1) A26 rfl rfl rfl (WL_run rfl (Zf rfl (Zx j)) rfl (Zr S26 rfl rfl (aw.mono a) (WL_run rfl (Zf rfl (Zx j)) rfl (Exec.geq rfl rfl rfl (Za rfl rfl (Exec.pick_f (v := Value.bool (decide ((af.Ops.length : Int) ≤ n))) rfl (Zx j) rfl (Zb (Ze ?_)))))))))))))
  exact ⟨a9, (Zv _), (ay).f1, rfl, rfl, rfl, (Zx (or_f j)).symm⟩
 intro cH dd b2
 obtain ⟨co, b, az, bN, aG, a4, be⟩ := b2
 refine (Ze ?_)
 rcases ite_some hm with ⟨al, hm⟩ | ⟨al, hm⟩
 ·refine W_cond_t be al (Zc (Zd (Za rfl rfl (Exec.makeInterface C45 rfl rfl (Za rfl rfl (Zo (v := Value.slice none 0 0) rfl rfl (Za rfl rfl (Zo (v := errV 45 (some 1)) rfl rfl (Zb (Ze (W_ret (at_ret ?_))))))))))))
  have c7 := Zu hm
  subst r
  refine ⟨_, ret2 rfl, ?_⟩
  exact ⟨co, (Value.slice none 0 0), (Zt a b), ((az).drop).drop, (tup2 rfl rfl), (SliceRep.nil _ _)⟩
 refine W_cond_f be al ?_
 replace al := Zk al
 refine W_skip (Ze (Zc (Zc (Zd (Za rfl rfl (Exec.load_box_agg (ds := [y, z, aa, ab, ac]) (az) A28 rfl aG rfl (Za rfl rfl (Exec.load_box_agg (ds := [q, t]) ((az).f1) A33 rfl a4 rfl ?_))))))))
 obtain ⟨dv, cb, hm⟩ := Zg hm
 refine Za rfl rfl (Tc rfl rfl rfl (Zi rfl (Zi rfl args_nil)) (ground_proper_sim cb az (aQ.mono (Zt a b)) (av.mono (Zt a b)) (aR.mono (Zt a b)) (aS.mono (Zt a b)) (aw.mono (Zt a b)) (aC.mono (Zt a b)) (ax.mono (Zt a b))).r ?_)
 rintro _ de ⟨cp, i, a0, rfl⟩
 refine Za rfl rfl (Exec.not rfl rfl (Zb (Ze ?_)))
 rcases ite_some hm with ⟨am, hm⟩ | ⟨am, hm⟩
 ·refine W_cond_t rfl am (Zc (Zd (Za rfl rfl (Exec.makeInterface C45 rfl rfl (Za rfl rfl (Zo (v := Value.slice none 0 0) rfl rfl (Za rfl rfl (Zo (v := errV 45 (some 2)) rfl rfl (Zb (Ze (W_ret (at_ret ?_))))))))))))
  have c8 := Zu hm
  subst r
  refine ⟨_, ret2 rfl, ?_⟩
  exact ⟨cp, (Value.slice none 0 0), (Zt (Zt a b) i), ((a0).drop).drop, (tup2 rfl rfl), (SliceRep.nil _ _)⟩
 refine W_cond_f rfl am ?_
 replace am := Zk am
 refine W_skip (Ze (Zc (Zd (Za rfl rfl (Zp F28_4 rfl aG rfl (Za rfl rfl (Zn (a0) A26 rfl rfl rfl (Za rfl rfl (Zm (v := Vi (n)) rfl bN ?_)))))))))
 obtain ⟨ai, cc, hm⟩ := Zg hm
 refine Za rfl rfl (Exec.index_rep S26 rfl rfl rfl (aw.mono (Zt (Zt a b) i)) cc ?_)
 intro c0 cO bu
 refine Za rfl rfl (Zw (E := encGOp) a0 A63 rfl rfl rfl bu ?_)
 intro cY cd
 obtain ⟨aM, aN, aO, bs, aq, rfl, bj, bk, bl, cm, a8⟩ := encGOp_val.1 cd
 refine Za rfl rfl (Exec.alloc (cs := [Value.string (⟨#[]⟩), Vi (0), Value.slice none 0 0, Value.slice none 0 0, Value.slice none 0 0, Value.slice none 0 0, Value.slice none 0 0]) a0 Z63 rfl rfl ?_)
 intro c1 df b6
 refine Za rfl rfl (Exec.store_box (ds := [Value.string (ai.Name), Vi (ai.Cost), aM, aN, aO, bs, aq]) (es := [Value.string (ai.Name), Vi (ai.Cost), aM, aN, aO, bs, aq]) b6 A63 rfl rfl rfl rfl (Zj rfl (Zj rfl (Zj (bj).one (Zj (bk).one (Zj (bl).one (Zj (cm).one (Zj (a8).one one_nil))))))) (Nat.le_of_ble_eq_true rfl) rfl ?_)
 intro dg aD
 refine Zb (Ze (Zc (Zc (Zd (Za rfl rfl (Exec.load_box_agg (ds := [q, t]) ((aD).f2) A33 rfl a4 rfl (Za rfl rfl (Zp F63_2 rfl rfl rfl (Za rfl rfl (Exec.load_box_agg (ds := [aM, aN, aO]) (aD) A59 rfl rfl rfl ?_))))))))))
 obtain ⟨dw, ce, hm⟩ := Zg hm
 refine Za rfl rfl (Tc rfl rfl rfl (Zi rfl (Zi rfl args_nil)) (ground_holds_sim ce aD (aC.mono (Zt (Zt a b) i)) (ax.mono (Zt (Zt a b) i)) bj bk bl).r ?_)
 rintro _ dh ⟨cq, m, aE, rfl⟩
 refine Za rfl rfl (Exec.not rfl rfl (Zb (Ze ?_)))
 rcases ite_some hm with ⟨an, hm⟩ | ⟨an, hm⟩
 ·refine W_cond_t rfl an (Zc (Zd (Za rfl rfl (Exec.makeInterface C45 rfl rfl (Za rfl rfl (Zo (v := Value.slice none 0 0) rfl rfl (Za rfl rfl (Zo (v := errV 45 (some 12)) rfl rfl (Zb (Ze (W_ret (at_ret ?_))))))))))))
  have c9 := Zu hm
  subst r
  refine ⟨_, ret2 rfl, ?_⟩
  exact ⟨cq, (Value.slice none 0 0), (Zt (Zt (Zt a b) i) m), (((aE).drop).drop).drop, (tup2 rfl rfl), (SliceRep.nil _ _)⟩
 refine W_cond_f rfl an ?_
 replace an := Zk an
 refine W_skip (Ze (Zc (Zd (Za rfl rfl (Zp F33_1 rfl a4 rfl (Za rfl rfl (Zn ((aE).f2) A24 rfl rfl rfl ?_)))))))
 obtain ⟨dx, cf, hm⟩ := Zg hm
 refine Za rfl rfl (Tc rfl rfl rfl (Zi rfl args_nil) (slices_Clone_int_sim cf aE (ax.mono (Zt (Zt (Zt a b) i) m))).r ?_)
 rintro o di ⟨aK, _, x, aY, rfl⟩
 refine Za rfl rfl (Zo (v := o) rfl rfl (Zb (Ze (Zc (Zc (Zd (Za rfl rfl (Zp F63_4 rfl rfl rfl (Za rfl rfl (Zn ((aY).f1) A61 rfl rfl rfl (Za rfl rfl (Zr S61 rfl rfl (a8.mono (Zt m x)) (Za rfl rfl (Zm (v := Vi (0)) rfl rfl (Zb (Ze ?_))))))))))))))))
 obtain ⟨aU, bz, bH, bF, bD⟩ := ctl_some hm
 refine W_mid (M := fun f' w' => ∃ s', (aU = .next s' ∨ aU = .brk s') ∧ (fun (bc : (List Int)) => ∃ (bo : PHeap) , PHeap.le aK bo ∧ St w0 bo (Res.box ad 28 [y, z, aa, ab, ac] :: Res.box ae 33 [q, t] :: Res.arr (encInt .i64) 3 o bc :: H) w' ∧ f' 3 = Value.pointer (some ⟨ad, 0, none⟩) ∧ f' 4 = Value.pointer (some ⟨ae, 0, none⟩) ∧ f' 9 = o ∧ f' 48 = aq ∧ f' 49 = Vi ((ai.Assigns.length : Int))) s') ?_ ?_
 ·refine W_block (W_forC (fun k' s' f' w' => (fun (a2 : (List Int)) => ∃ (bp : PHeap) , PHeap.le aK bp ∧ St w0 bp (Res.box ad 28 [y, z, aa, ab, ac] :: Res.box ae 33 [q, t] :: Res.arr (encInt .i64) 3 o a2 :: H) w' ∧ f' 3 = Value.pointer (some ⟨ad, 0, none⟩) ∧ f' 4 = Value.pointer (some ⟨ae, 0, none⟩) ∧ f' 9 = o ∧ f' 48 = aq ∧ f' 49 = Vi ((ai.Assigns.length : Int)) ∧ f' 50 = Vi (k' : Int)) s') bz ?_ ?_ ?_)
  ·have b7 := ((aY).f1).drop
   exact ⟨aK, (Zv _), ((b7).f2).f2, aG, a4, rfl, rfl, rfl, rfl⟩
  ·intro bb a2 aV cI dj bE b0 c bI
   obtain ⟨cW, ah, aZ, ap, a5, aH, a6, a7, ar⟩ := b0
   refine Zc (Zd (Za rfl rfl (Zq rfl ar a7 (Zb (Ze (Zc (W_true (Zx (decide_eq_true (by omega))) (W_skip (Ze (Zc (W_block (Zc (Zd ?_)))))))))))))
   obtain ⟨p, cg, c⟩ := Zg c
   refine Za rfl rfl (Exec.index_rep S61 rfl a6 ar (a8.mono (Zt (Zt m x) ah)) cg ?_)
   intro c2 cP bv
   refine Za rfl rfl (Zw (E := encGAssign) aZ A109 rfl rfl rfl bv ?_)
   intro cZ ch
   obtain ⟨aB, rfl, bm⟩ := encGAssign_val.1 ch
   refine Za rfl rfl (Exec.alloc (cs := [Vi (0), Value.string (⟨#[]⟩), Vi (0), Value.slice none 0 0]) aZ Z109 rfl rfl ?_)
   intro aT dk b8
   refine Za rfl rfl (Exec.store_box (ds := [Vi (p.Fluent), Value.string (p.Value.Op), Vi (p.Value.N), aB]) (es := [Vi (p.Fluent), Value.string (p.Value.Op), Vi (p.Value.N), aB]) b8 A109 rfl rfl rfl rfl (Zj rfl (Zj rfl (Zj rfl (Zj (bm).one one_nil)))) (Nat.le_of_ble_eq_true rfl) rfl ?_)
   intro dl aF
   refine Zb (Ze (Zc (Zd (Za rfl rfl (Exec.load_box_agg (ds := [q, t]) ((aF).f2) A33 rfl a5 rfl (Za rfl rfl (Zp F109_1 rfl rfl rfl (Za rfl rfl (Exec.load_box_agg (ds := [Value.string (p.Value.Op), Vi (p.Value.N), aB]) (aF) A102 rfl rfl rfl ?_)))))))))
   obtain ⟨cu, ci, c⟩ := Zg c
   obtain ⟨ag, au⟩ := cu
   replace c := un2_eq c
   refine Za rfl rfl (Tc rfl rfl rfl (Zi rfl (Zi rfl args_nil)) (ground_value_sim ci aF (aC.mono (Zt (Zt (Zt (Zt (Zt a b) i) m) x) ah)) (ax.mono (Zt (Zt (Zt (Zt (Zt a b) i) m) x) ah)) bm).r ?_)
   rintro _ dm ⟨aA, a3, u, rfl⟩
   refine Za rfl rfl (Zm (v := Value.tuple #[Vi (ag), Value.bool (au)]) rfl rfl (Za rfl rfl (Exec.extract (v := Vi (ag)) rfl rfl rfl (Za rfl rfl (Exec.extract (v := Value.bool (au)) rfl rfl rfl (Za rfl rfl (Zo (v := Vi (ag)) rfl rfl (Za rfl rfl (Zo (v := Value.bool (au)) rfl rfl (Zb (Ze (Zc (Zc ?_)))))))))))))
   obtain ⟨aj, l, c⟩ := Zg c
   refine W_mid (M := fun f' w' => (fun (aj : Bool) => ∃ (bq : PHeap) , PHeap.le aA bq ∧ St w0 bq (Res.box ad 28 [y, z, aa, ab, ac] :: Res.box ae 33 [q, t] :: Res.arr (encInt .i64) 3 o a2 :: Res.box aT 109 [Vi (p.Fluent), Value.string (p.Value.Op), Vi (p.Value.N), aB] :: H) w' ∧ f' 3 = Value.pointer (some ⟨ad, 0, none⟩) ∧ f' 4 = Value.pointer (some ⟨ae, 0, none⟩) ∧ f' 9 = o ∧ f' 11 = Value.pointer (some ⟨aT, 0, none⟩) ∧ f' 12 = Vi (ag) ∧ f' 48 = aq ∧ f' 49 = Vi ((ai.Assigns.length : Int)) ∧ f' 50 = Vi ((bb : Int)) ∧ f' 84 = Value.bool (aj)) aj) ?_ ?_
   ·refine Zd (Za rfl rfl (Zm (v := Value.bool (au)) rfl rfl (Za rfl rfl (Exec.not rfl rfl (Za rfl rfl (Zm (v := Value.bool (!au)) rfl rfl ?_))))))
    rcases ite_some l with ⟨d, l⟩ | ⟨d, l⟩
    ·refine WL_passes 21 (by rw [d]; rfl) ?_
     refine Zb (Ze ?_)
     have cA := Zu l
     subst aj
     exact ⟨aA, (Zv _), (((u).f3).f3).f3, ap, a5, aH, rfl, rfl, a6, a7, ar, rfl⟩
    replace d := Zk d
    refine WL_run rfl (Zf rfl (Zx d)) rfl (Zm (v := Vi (ag)) rfl rfl (WL_run rfl (Zf rfl (Zx d)) rfl (Zp F28_1 rfl ap rfl (WL_run rfl (Zf rfl (Zx d)) rfl (Zn ((u).f1) A23 rfl rfl rfl (WL_run rfl (Zf rfl (Zx d)) rfl (Zp F109_0 rfl rfl rfl (WL_run rfl (Zf rfl (Zx d)) rfl (Zn (u) A3 rfl rfl rfl ?_)))))))))
    obtain ⟨aP, bi, l⟩ := Zg l
    refine WL_run rfl (Zf rfl (Zx d)) rfl (Exec.index_rep S23 rfl rfl rfl (av.mono (Zt (Zt (Zt (Zt (Zt (Zt a b) i) m) x) ah) a3)) bi ?_)
    intro c3 cQ bw
    refine WL_run rfl (Zf rfl (Zx d)) rfl (Zp F69_1 rfl rfl rfl (WL_run rfl (Zf rfl (Zx d)) rfl (Zw (E := (encInt .i64)) u A3 rfl rfl rfl (bw.sub (Sub.iso (Sub.snd (Sub.fst (Sub.refl _)) rfl)) rfl) ?_)))
    intro cv cj
    obtain rfl : cv = Vi (aP.Lo) := encInt_val.1 cj
    refine WL_run rfl (Zf rfl (Zx d)) rfl (Zq rfl rfl rfl ?_)
    refine WL_passes 2 (by rw [d]; rfl) ?_
    rcases ite_some l with ⟨g, l⟩ | ⟨g, l⟩
    ·refine WL_passes 10 (by rw [g]; rfl) ?_
     refine Zb (Ze ?_)
     have cB := Zu l
     subst aj
     exact ⟨aA, (Zv _), (((u).f3).f3).f3, ap, a5, aH, rfl, rfl, a6, a7, ar, rfl⟩
    replace g := Zk g
    refine WL_run rfl (Zf rfl (Zx g)) rfl (Zm (v := Vi (ag)) rfl rfl (WL_run rfl (Zf rfl (Zx g)) rfl (Zp F28_1 rfl ap rfl (WL_run rfl (Zf rfl (Zx g)) rfl (Zn ((u).f1) A23 rfl rfl rfl (WL_run rfl (Zf rfl (Zx g)) rfl (Zp F109_0 rfl rfl rfl (WL_run rfl (Zf rfl (Zx g)) rfl (Zn (u) A3 rfl rfl rfl (WL_run rfl (Zf rfl (Zx g)) rfl (Exec.index_rep S23 rfl rfl rfl (av.mono (Zt (Zt (Zt (Zt (Zt (Zt a b) i) m) x) ah) a3)) bi ?_)))))))))))
    intro c4 cR bx
    refine WL_run rfl (Zf rfl (Zx g)) rfl (Zp F69_2 rfl rfl rfl (WL_run rfl (Zf rfl (Zx g)) rfl (Zw (E := (encInt .i64)) u A3 rfl rfl rfl (bx.sub (Sub.iso (Sub.snd (Sub.snd (Sub.fst (Sub.refl _)) rfl) rfl)) rfl) ?_)))
    intro cw ck
    obtain rfl : cw = Vi (aP.Hi) := encInt_val.1 ck
    refine WL_run rfl (Zf rfl (Zx g)) rfl (Exec.gtr rfl rfl rfl (Za rfl rfl (Exec.pick_f (v := Value.bool (decide (aP.Hi < ag))) rfl (Zx g) rfl (Zb (Ze ?_)))))
    have cC := Zu l
    subst aj
    exact ⟨aA, (Zv _), (((u).f3).f3).f3, ap, a5, aH, rfl, rfl, a6, a7, ar, rfl⟩
   intro cJ dn b3
   obtain ⟨br, bd, a1, bO, bP, bf, bQ, bR, bS, bT, bU, bg⟩ := b3
   refine (Ze ?_)
   rcases ite_some c with ⟨ao, c⟩ | ⟨ao, c⟩
   ·refine W_cond_t bg ao (Zc (Zd (Za rfl rfl (Exec.makeInterface C45 rfl rfl (Za rfl rfl (Zo (v := Value.slice none 0 0) rfl rfl (Za rfl rfl (Zo (v := errV 45 (some 14)) rfl rfl (Zb (Ze (W_ret (at_ret (ib_ret (at_ret (at_ret (ib_ret (at_ret (at_ret ?_))))))))))))))))))
    have cD := Zu c
    subst aV
    have bG := bH _ (bI (by intro _ h; cases h))
    have cE := Zu bG
    subst r
    refine ⟨_, ret2 rfl, ?_⟩
    exact ⟨br, (Value.slice none 0 0), (Zt (Zt (Zt (Zt (Zt (Zt (Zt a b) i) m) x) ah) a3) bd), ((((a1).drop).drop).drop).drop, (tup2 rfl rfl), (SliceRep.nil _ _)⟩
   refine W_cond_f bg ao ?_
   replace ao := Zk ao
   refine W_skip (Ze (Zd (Za rfl rfl (Zm (v := o) rfl bf (Za rfl rfl (Zp F109_0 rfl bQ rfl (Za rfl rfl (Zn ((a1).f3) A3 rfl rfl rfl (Za rfl rfl (Zm (v := Vi (ag)) rfl bR ?_))))))))))
   obtain ⟨dt, aI, c⟩ := Zg c
   obtain ⟨cM, c5, aW⟩ := ((a1).f2).arr_at aI
   refine Za rfl rfl (Exec.index_slice S24 rfl aW rfl (idx_some aI).1 (idx_some aI).2.1 ?_)
   obtain ⟨cN, cl, c⟩ := Zg c
   refine Za rfl rfl (Exec.store_arr (a1).f2 aW A3 rfl rfl rfl rfl (encInt_val.2 rfl) cl ?_)
   intro dp b9
   refine Zb (ib_normal (Ze (Zd (Za rfl rfl (Exec.add rfl bU rfl (Za rfl rfl (Zm (v := Vi (IntKind.i64.wrap ((bb : Int) + 1))) rfl rfl (Zb (Ze ?_)))))))))
   have cF := Zu c
   subst aV
   refine ⟨_, rfl, ?_⟩; exact ⟨br, (Zt (Zt ah a3) bd), ((((b9).f3).drop).f2).f2, bO, bP, bf, bS, bT, (Eq.trans rfl (wrap_up bE (SliceRep.le (a8.mono (Zt m x)))))⟩
  intro a2 cK dq b1 bJ
  obtain ⟨cr, bK, bA, bV, bW, bX, bY, bh, cx⟩ := b1
  refine Zc (Zd (Za rfl rfl (Zq rfl cx bh (Zb (Ze (Zc (W_false (Zx (decide_eq_false (by omega))) (W_exit (at_exit (at_exit (ib_here (Ze ?_))))))))))))
  refine ⟨_, .inl bJ, ?_⟩; exact ⟨cr, bK, (((bA).f2).f2).f2, bV, bW, bX, bY, bh⟩
 rintro cL dr ⟨bc, ba, b4⟩
 have hm := ba.elim (bF _) (bD _)
 clear ba
 obtain ⟨cX, bL, bB, cS, cT, bZ, cU, cV⟩ := b4
 refine (Ze (Zc (Zd (Za rfl rfl (Zm (v := o) rfl bZ (Za rfl rfl (Zo (v := o) rfl rfl (Za rfl rfl (Zo (v := errV 45 (none)) rfl rfl (Zb (Ze (W_ret ?_))))))))))))
 have cG := Zu hm
 subst r
 refine ⟨_, ret2 rfl, ?_⟩
 obtain ⟨ct, bM, bC, cn⟩ := (bB).f2.freezeArr
 exact ⟨ct, o, (Zt (Zt (Zt (Zt (Zt (Zt a b) i) m) x) bL) bM), ((bC).drop).drop, (tup2 rfl rfl), cn⟩
end Go.Pw
