/-
  The walks (printed by my generator).
-/
import Derived.Test.YtkfcbmecmdpilaaL29
import Derived.Test.YtkfcbmecmdpilaaL27
import Derived.Test.YtkfcbmecmdpilaaSx1
set_option maxRecDepth 100000
set_option maxHeartbeats 4000000
set_option linter.unusedVariables false
namespace Go.Pw
open Go.Proofs
theorem simplify_sameCond_c1_sim {w0 w : World} {s : PHeap} {H : List Res} {fu : Nat} {a : GTest} {b : GTest} {l : Value} {m : Value} {n : Value} {o : Value} {r : Bool} (hm : simplify_sameCond_c1_p fu a b = some r) (hS : St w0 s (H) w) (t : SliceRep encGExpr s l a.A.Kids) (u : SliceRep encGExpr s m a.B.Kids) (x : SliceRep encGExpr s n b.A.Kids) (y : SliceRep encGExpr s o b.B.Kids) :
  Calls Try.prog 127 #[Value.agg #[Value.string (a.Op), Value.string (a.A.Op), Vi (a.A.N), l, Value.string (a.B.Op), Vi (a.B.N), m], Value.agg #[Value.string (b.Op), Value.string (b.A.Op), Vi (b.A.N), n, Value.string (b.B.Op), Vi (b.B.N), o]] w fun e w' => ∃ v, e = .returned v ∧ ((fun (al : Bool) => ∃ (p : PHeap) , PHeap.le s p ∧ St w0 p (H) w' ∧ v = Value.bool (al)) r) := by
 unfold simplify_sameCond_c1_p at hm
 refine calls_of_W Try.func127 rfl rfl (Zc (Zd (Za rfl rfl (Exec.box (cs := [Value.string (a.Op), Value.string (a.A.Op), Vi (a.A.N), l, Value.string (a.B.Op), Vi (a.B.N), m]) hS rfl rfl rfl ?_))))
 intro am av aa
 refine Za rfl rfl (Exec.box (cs := [Value.string (b.Op), Value.string (b.A.Op), Vi (b.A.N), n, Value.string (b.B.Op), Vi (b.B.N), o]) aa rfl rfl rfl ?_)
 intro an aw h
 refine Za rfl rfl (Zo (v := Value.bool (false)) rfl rfl (Zb (Ze (Zc ?_))))
 obtain ⟨i, c, hm⟩ := Zg hm
 refine W_mid (M := fun f' w' => (fun (i : Bool) => ∃ (q : PHeap) , PHeap.le s q ∧ St w0 q (H) w' ∧ f' 4 = Value.bool (i)) i) ?_ ?_
 ·refine Zd (Za rfl rfl (Zp F129_0 rfl rfl rfl (Za rfl rfl (Zn ((h).f1) A9 rfl rfl rfl (Za rfl rfl (Zp F129_0 rfl rfl rfl (Za rfl rfl (Zn (h) A9 rfl rfl rfl (Za rfl rfl (Exec.str_eql rfl rfl rfl (Za rfl rfl (Zm (v := Value.bool (decide (a.Op = b.Op))) rfl rfl ?_))))))))))))
  rcases ite_some c with ⟨d, c⟩ | ⟨d, c⟩
  ·refine WL_run rfl (Zf rfl (Zx d)) rfl (Zp F129_1 rfl rfl rfl (WL_run rfl (Zf rfl (Zx d)) rfl (Exec.load_box_agg (ds := [Value.string (a.A.Op), Vi (a.A.N), l]) ((h).f1) A82 rfl rfl rfl (WL_run rfl (Zf rfl (Zx d)) rfl (Zp F129_1 rfl rfl rfl (WL_run rfl (Zf rfl (Zx d)) rfl (Exec.load_box_agg (ds := [Value.string (b.A.Op), Vi (b.A.N), n]) (h) A82 rfl rfl rfl ?_)))))))
   obtain ⟨a0, ag, c⟩ := Zg c
   refine WL_run rfl (Zf rfl (Zx d)) rfl (Tc rfl rfl rfl (Zi rfl (Zi rfl args_nil)) (simplify_sameExpr_sim ag h t x).r ?_)
   rintro _ ax ⟨ai, k, j, rfl⟩
   refine WL_passes 2 (by rw [d]; rfl) ?_
   rcases ite_some c with ⟨g, c⟩ | ⟨g, c⟩
   ·refine WL_run rfl (Zf rfl (Zx g)) rfl (Zp F129_2 rfl rfl rfl (WL_run rfl (Zf rfl (Zx g)) rfl (Exec.load_box_agg (ds := [Value.string (a.B.Op), Vi (a.B.N), m]) ((j).f1) A82 rfl rfl rfl (WL_run rfl (Zf rfl (Zx g)) rfl (Zp F129_2 rfl rfl rfl (WL_run rfl (Zf rfl (Zx g)) rfl (Exec.load_box_agg (ds := [Value.string (b.B.Op), Vi (b.B.N), o]) (j) A82 rfl rfl rfl ?_)))))))
    obtain ⟨a1, ah, c⟩ := Zg c
    refine WL_run rfl (Zf rfl (Zx g)) rfl (Tc rfl rfl rfl (Zi rfl (Zi rfl args_nil)) (simplify_sameExpr_sim ah j (u.mono k) (y.mono k)).r ?_)
    rintro _ ay ⟨aj, ad, ab, rfl⟩
    refine WL_passes 2 (by rw [g]; rfl) ?_
    refine Zb (Ze ?_)
    have ao := Zu c
    subst i
    exact ⟨aj, (Zt k ad), ((ab).drop).drop, rfl⟩
   replace g := Zk g
   refine WL_passes 7 (by rw [g]; rfl) ?_
   refine Zb (Ze ?_)
   have ap := Zu c
   subst i
   exact ⟨ai, k, ((j).drop).drop, rfl⟩
  replace d := Zk d
  refine WL_passes 14 (by rw [d]; rfl) ?_
  refine Zb (Ze ?_)
  have aq := Zu c
  subst i
  exact ⟨s, (Zv _), ((h).drop).drop, rfl⟩
 intro au az z
 obtain ⟨ak, ae, ac, af⟩ := z
 refine (Ze (W_ret ?_))
 have ar := Zu hm
 subst r
 refine ⟨_, ret1 rfl, ?_⟩
 exact ⟨ak, ae, ac, af⟩
theorem api_GTest__f127_sim {w0 w : World} {s : PHeap} {H : List Res} {fu : Nat} {o : (List GTest)} {aq : (List GTest)} {d : Value} {g : Value} {r : Bool} (hm : api_GTest__f127_p fu o aq = some r) (hS : St w0 s (H) w) (l : SliceRep encGTest s d o) (z : SliceRep encGTest s g aq) :
  Calls Try.prog 126 #[d, g, Value.func (.func 127) #[] #[]] w fun e w' => ∃ v, e = .returned v ∧ ((fun (aR : Bool) => ∃ (ar : PHeap) , PHeap.le s ar ∧ St w0 ar (H) w' ∧ v = Value.bool (aR)) r) := by
 unfold api_GTest__f127_p at hm
 refine calls_of_W Try.func126 rfl rfl (Zc (Zd (Za rfl rfl (Zo (v := Value.bool (false)) rfl rfl (Zb (Ze (Zc (Zc (Zd (Za rfl rfl (Zm (v := d) rfl rfl (Za rfl rfl (Zr S45 rfl rfl l (Za rfl rfl (Zm (v := g) rfl rfl (Za rfl rfl (Zr S45 rfl rfl z (Za rfl rfl (Exec.neq rfl rfl rfl (Zb (Ze ?_)))))))))))))))))))))
 rcases ite_some hm with ⟨i, hm⟩ | ⟨i, hm⟩
 ·refine W_cond_t rfl i (Zc (Zd (Za rfl rfl (Zo (v := Value.bool (false)) rfl rfl (Zb (Ze (W_ret (at_ret ?_))))))))
  have aW := Zu hm
  subst r
  refine ⟨_, ret1 rfl, ?_⟩
  exact ⟨s, (Zv _), hS, rfl⟩
 refine W_cond_f rfl i ?_
 replace i := Zk i
 refine W_skip (Ze (Zc (Zc (Zd (Za rfl rfl (Zm (v := d) rfl rfl (Za rfl rfl (Zr S45 rfl rfl l (Za rfl rfl (Zm (v := Vi (0)) rfl rfl (Zb (Ze ?_))))))))))))
 obtain ⟨aa, az, aB, a9, a7⟩ := ctl_some hm
 refine W_mid (M := fun f' w' => ∃ s', (aa = .next s' ∨ aa = .brk s') ∧ (fun (_ : Unit) => ∃ (au : PHeap) , PHeap.le s au ∧ St w0 au (H) w' ∧ f' 1 = g ∧ f' 2 = Value.func (.func 127) #[] #[] ∧ f' 15 = d ∧ f' 16 = Vi ((o.length : Int))) s') ?_ ?_
 ·refine W_block (W_forC (fun k' s' f' w' => (fun (_ : Unit) => ∃ (av : PHeap) , PHeap.le s av ∧ St w0 av (H) w' ∧ f' 1 = g ∧ f' 2 = Value.func (.func 127) #[] #[] ∧ f' 15 = d ∧ f' 16 = Vi ((o.length : Int)) ∧ f' 17 = Vi (k' : Int)) s') az ?_ ?_ ?_)
  ·exact ⟨s, (Zv _), hS, rfl, rfl, rfl, rfl, rfl⟩
  ·intro m bl ab bb bq a8 a0 c aC
   obtain ⟨bk, n, ac, ah, ai, aj, ak, p⟩ := a0
   refine Zc (Zd (Za rfl rfl (Zq rfl p ak (Zb (Ze (Zc (W_true (Zx (decide_eq_true (by omega))) (W_skip (Ze (Zc (W_block (Zc (Zd (Za rfl rfl (Zm (v := Vi ((m : Int))) rfl p ?_)))))))))))))))
   obtain ⟨a, aJ, c⟩ := Zg c
   refine Za rfl rfl (Exec.index_rep S45 rfl aj p (l.mono n) aJ ?_)
   intro aS be ax
   refine Za rfl rfl (Zw (E := encGTest) ac A129 rfl rfl rfl ax ?_)
   intro bo aK
   obtain ⟨t, u, rfl, am, an⟩ := encGTest_val.1 aK
   refine Za rfl rfl (Exec.alloc (cs := [Value.string (⟨#[]⟩), Value.string (⟨#[]⟩), Vi (0), Value.slice none 0 0, Value.string (⟨#[]⟩), Vi (0), Value.slice none 0 0]) ac Z129 rfl rfl ?_)
   intro aT br a3
   refine Za rfl rfl (Zo (v := Vi ((m : Int))) rfl rfl (Za rfl rfl (Exec.store_box (ds := [Value.string (a.Op), Value.string (a.A.Op), Vi (a.A.N), t, Value.string (a.B.Op), Vi (a.B.N), u]) (es := [Value.string (a.Op), Value.string (a.A.Op), Vi (a.A.N), t, Value.string (a.B.Op), Vi (a.B.N), u]) a3 A129 rfl rfl rfl rfl (Zj rfl (Zj rfl (Zj rfl (Zj (am).one (Zj rfl (Zj rfl (Zj (an).one one_nil))))))) (Nat.le_of_ble_eq_true rfl) rfl ?_)))
   intro bs ad
   refine Zb (Ze (Zc (Zd (Za rfl rfl (Zm (v := g) rfl ah (Za rfl rfl (Zm (v := Vi ((m : Int))) rfl rfl ?_)))))))
   obtain ⟨b, aL, c⟩ := Zg c
   refine Za rfl rfl (Exec.index_rep S45 rfl rfl rfl (z.mono n) aL ?_)
   intro aU bf ay
   refine Za rfl rfl (Zw (E := encGTest) ad A129 rfl rfl rfl ay ?_)
   intro bp aM
   obtain ⟨x, y, rfl, ao, ap⟩ := encGTest_val.1 aM
   refine Za rfl rfl (Exec.alloc (cs := [Value.string (⟨#[]⟩), Value.string (⟨#[]⟩), Vi (0), Value.slice none 0 0, Value.string (⟨#[]⟩), Vi (0), Value.slice none 0 0]) ad Z129 rfl rfl ?_)
   intro aV bt a4
   refine Za rfl rfl (Exec.store_box (ds := [Value.string (b.Op), Value.string (b.A.Op), Vi (b.A.N), x, Value.string (b.B.Op), Vi (b.B.N), y]) (es := [Value.string (b.Op), Value.string (b.A.Op), Vi (b.A.N), x, Value.string (b.B.Op), Vi (b.B.N), y]) a4 A129 rfl rfl rfl rfl (Zj rfl (Zj rfl (Zj rfl (Zj (ao).one (Zj rfl (Zj rfl (Zj (ap).one one_nil))))))) (Nat.le_of_ble_eq_true rfl) rfl ?_)
   intro bu q
   refine Zb (Ze (Zc (Zd (Za rfl rfl (Zm (v := Value.func (.func 127) #[] #[]) rfl ai (Za rfl rfl (Exec.load_box_agg (ds := [Value.string (a.Op), Value.string (a.A.Op), Vi (a.A.N), t, Value.string (a.B.Op), Vi (a.B.N), u]) ((q).f1) A129 rfl rfl rfl (Za rfl rfl (Exec.load_box_agg (ds := [Value.string (b.Op), Value.string (b.A.Op), Vi (b.A.N), x, Value.string (b.B.Op), Vi (b.B.N), y]) (q) A129 rfl rfl rfl ?_)))))))))
   obtain ⟨bz, aN, c⟩ := Zg c
   refine Za rfl rfl (Exec.callf rfl rfl Try.func127 rfl N127 (Zi rfl (Zi rfl args_nil)) ((simplify_sameCond_c1_sim aN q am an ao ap).mono ?_))
   rintro _ bv ⟨_, rfl, ⟨aw, ag, ae, rfl⟩⟩
   refine ⟨_, rfl, ?_⟩
   refine Za rfl rfl (Exec.not rfl rfl (Zb (Ze ?_)))
   rcases ite_some c with ⟨j, c⟩ | ⟨j, c⟩
   ·refine W_cond_t rfl j (Zc (Zd (Za rfl rfl (Zo (v := Value.bool (false)) rfl rfl (Zb (Ze (W_ret (ib_ret (at_ret (at_ret (ib_ret (at_ret (at_ret ?_)))))))))))))
    have aX := Zu c
    subst ab
    have aA := aB _ (aC (by intro _ h; cases h))
    have aY := Zu aA
    subst r
    refine ⟨_, ret1 rfl, ?_⟩
    exact ⟨aw, (Zt n ag), ((ae).drop).drop, rfl⟩
   refine W_cond_f rfl j ?_
   replace j := Zk j
   refine W_skip (ib_normal (Ze (Zd (Za rfl rfl (Exec.add rfl p rfl (Za rfl rfl (Zm (v := Vi (IntKind.i64.wrap ((m : Int) + 1))) rfl rfl (Zb (Ze ?_)))))))))
   have aZ := Zu c
   subst ab
   refine ⟨_, rfl, ?_⟩; exact ⟨aw, (Zt n ag), ((ae).drop).drop, ah, ai, aj, ak, (Eq.trans rfl (wrap_up a8 (SliceRep.le l)))⟩
  intro bm bc bw a1 aD
  obtain ⟨aO, aE, a5, aG, aH, aI, al, aQ⟩ := a1
  refine Zc (Zd (Za rfl rfl (Zq rfl aQ al (Zb (Ze (Zc (W_false (Zx (decide_eq_false (by omega))) (W_exit (at_exit (at_exit (ib_here (Ze ?_))))))))))))
  refine ⟨_, .inl aD, ?_⟩; exact ⟨aO, aE, a5, aG, aH, aI, al⟩
 rintro bd bx ⟨bn, af, a2⟩
 have hm := af.elim (a9 _) (a7 _)
 clear af
 obtain ⟨aP, aF, a6, bg, bh, bi, bj⟩ := a2
 refine (Ze (Zc (Zd (Za rfl rfl (Zo (v := Value.bool (true)) rfl rfl (Zb (Ze (W_ret ?_))))))))
 have ba := Zu hm
 subst r
 refine ⟨_, ret1 rfl, ?_⟩
 exact ⟨aP, aF, a6, rfl⟩
theorem simplify_sameCond_sim {w0 w : World} {s : PHeap} {H : List Res} {fu : Nat} {h : Cond} {i : Cond} {n : Value} {o : Value} {p : Value} {q : Value} {t : Value} {u : Value} {r : Bool} (hm : simplify_sameCond_p fu h i = some r) (hS : St w0 s (H) w) (z : SliceRep (encInt .i64) s n h.Pos) (aa : SliceRep (encInt .i64) s o h.Neg) (ab : SliceRep encGTest s p h.Tests) (ac : SliceRep (encInt .i64) s q i.Pos) (ad : SliceRep (encInt .i64) s t i.Neg) (ae : SliceRep encGTest s u i.Tests) :
  Calls Try.prog 111 #[Value.agg #[n, o, p], Value.agg #[q, t, u]] w fun e w' => ∃ v, e = .returned v ∧ ((fun (av : Bool) => ∃ (x : PHeap) , PHeap.le s x ∧ St w0 x (H) w' ∧ v = Value.bool (av)) r) := by
 unfold simplify_sameCond_p at hm
 refine calls_of_W Try.func111 rfl rfl (Zc (Zd (Za rfl rfl (Exec.box (cs := [n, o, p]) hS rfl rfl rfl ?_))))
 intro ax a4 ag
 refine Za rfl rfl (Exec.box (cs := [q, t, u]) ag rfl rfl rfl ?_)
 intro ay a5 m
 refine Za rfl rfl (Zo (v := Value.bool (false)) rfl rfl (Zb (Ze (Zc ?_))))
 obtain ⟨g, a, hm⟩ := Zg hm
 refine W_mid (M := fun f' w' => (fun (g : Bool) => ∃ (y : PHeap) , PHeap.le s y ∧ St w0 y (H) w' ∧ f' 4 = Value.bool (g)) g) ?_ ?_
 ·refine Zd (Za rfl rfl (Zp F47_0 rfl rfl rfl (Za rfl rfl (Zn ((m).f1) A24 rfl rfl rfl (Za rfl rfl (Zp F47_0 rfl rfl rfl (Za rfl rfl (Zn (m) A24 rfl rfl rfl ?_))))))))
  obtain ⟨aw, am, a⟩ := Zg a
  refine Za rfl rfl (Tc rfl rfl rfl (Zi rfl (Zi rfl args_nil)) (slices_Equal___int_int__sim am m z ac).r ?_)
  rintro _ a6 ⟨ap, d, j, rfl⟩
  refine Za rfl rfl (Zm (v := Value.bool (aw)) rfl rfl ?_)
  rcases ite_some a with ⟨b, a⟩ | ⟨b, a⟩
  ·refine WL_run rfl (Zf rfl (Zx b)) rfl (Zp F47_1 rfl rfl rfl (WL_run rfl (Zf rfl (Zx b)) rfl (Zn ((j).f1) A24 rfl rfl rfl (WL_run rfl (Zf rfl (Zx b)) rfl (Zp F47_1 rfl rfl rfl (WL_run rfl (Zf rfl (Zx b)) rfl (Zn (j) A24 rfl rfl rfl ?_)))))))
   obtain ⟨aA, an, a⟩ := Zg a
   refine WL_run rfl (Zf rfl (Zx b)) rfl (Tc rfl rfl rfl (Zi rfl (Zi rfl args_nil)) (slices_Equal___int_int__sim an j (aa.mono d) (ad.mono d)).r ?_)
   rintro _ a7 ⟨aq, l, k, rfl⟩
   refine WL_passes 2 (by rw [b]; rfl) ?_
   rcases ite_some a with ⟨c, a⟩ | ⟨c, a⟩
   ·refine WL_run rfl (Zf rfl (Zx c)) rfl (Zp F47_2 rfl rfl rfl (WL_run rfl (Zf rfl (Zx c)) rfl (Zn ((k).f1) A45 rfl rfl rfl (WL_run rfl (Zf rfl (Zx c)) rfl (Zp F47_2 rfl rfl rfl (WL_run rfl (Zf rfl (Zx c)) rfl (Zn (k) A45 rfl rfl rfl ?_)))))))
    obtain ⟨aB, ao, a⟩ := Zg a
    refine WL_run rfl (Zf rfl (Zx c)) rfl (Tc rfl rfl rfl (Zi rfl (Zi rfl (Zi rfl args_nil))) (api_GTest__f127_sim ao k (ab.mono (Zt d l)) (ae.mono (Zt d l))).r ?_)
    rintro _ a8 ⟨ar, aj, ah, rfl⟩
    refine WL_passes 2 (by rw [c]; rfl) ?_
    refine Zb (Ze ?_)
    have az := Zu a
    subst g
    exact ⟨ar, (Zt (Zt d l) aj), ((ah).drop).drop, rfl⟩
   replace c := Zk c
   refine WL_passes 7 (by rw [c]; rfl) ?_
   refine Zb (Ze ?_)
   have a0 := Zu a
   subst g
   exact ⟨aq, (Zt d l), ((k).drop).drop, rfl⟩
  replace b := Zk b
  refine WL_passes 14 (by rw [b]; rfl) ?_
  refine Zb (Ze ?_)
  have a1 := Zu a
  subst g
  exact ⟨ap, d, ((j).drop).drop, rfl⟩
 intro a3 a9 af
 obtain ⟨au, ak, ai, al⟩ := af
 refine (Ze (W_ret ?_))
 have a2 := Zu hm
 subst r
 refine ⟨_, ret1 rfl, ?_⟩
 exact ⟨au, ak, ai, al⟩
theorem N113 : (Try.f113.name == "runtime.NumGoroutine") = false := by kernel_rfl
theorem simplify_alike_c1_sim {w0 w : World} {s : PHeap} {H : List Res} {fu : Nat} {g : GChange} {h : GChange} {j : Value} {k : Value} {l : Value} {m : Value} {n : Value} {o : Value} {r : Bool} (hm : simplify_alike_c1_p fu g h = some r) (hS : St w0 s (H) w) (t : SliceRep (encInt .i64) s j g.When.Pos) (u : SliceRep (encInt .i64) s k g.When.Neg) (x : SliceRep encGTest s l g.When.Tests) (y : SliceRep (encInt .i64) s m h.When.Pos) (z : SliceRep (encInt .i64) s n h.When.Neg) (aa : SliceRep encGTest s o h.When.Tests) :
  Calls Try.prog 113 #[Value.agg #[j, k, l, Vi (g.Atom), Value.bool (g.Add)], Value.agg #[m, n, o, Vi (h.Atom), Value.bool (h.Add)]] w fun e w' => ∃ v, e = .returned v ∧ ((fun (al : Bool) => ∃ (p : PHeap) , PHeap.le s p ∧ St w0 p (H) w' ∧ v = Value.bool (al)) r) := by
 unfold simplify_alike_c1_p at hm
 refine calls_of_W Try.func113 rfl rfl (Zc (Zd (Za rfl rfl (Exec.box (cs := [j, k, l, Vi (g.Atom), Value.bool (g.Add)]) hS rfl rfl rfl ?_))))
 intro am av ac
 refine Za rfl rfl (Exec.box (cs := [m, n, o, Vi (h.Atom), Value.bool (h.Add)]) ac rfl rfl rfl ?_)
 intro an aw d
 refine Za rfl rfl (Zo (v := Value.bool (false)) rfl rfl (Zb (Ze (Zc ?_))))
 obtain ⟨i, a, hm⟩ := Zg hm
 refine W_mid (M := fun f' w' => (fun (i : Bool) => ∃ (q : PHeap) , PHeap.le s q ∧ St w0 q (H) w' ∧ f' 4 = Value.bool (i)) i) ?_ ?_
 ·refine Zd (Za rfl rfl (Zp F58_1 rfl rfl rfl (Za rfl rfl (Zn ((d).f1) A3 rfl rfl rfl (Za rfl rfl (Zp F58_1 rfl rfl rfl (Za rfl rfl (Zn (d) A3 rfl rfl rfl (Za rfl rfl (Exec.eql rfl rfl rfl (Za rfl rfl (Zm (v := Value.bool (decide (g.Atom = h.Atom))) rfl rfl ?_))))))))))))
  rcases ite_some a with ⟨b, a⟩ | ⟨b, a⟩
  ·refine WL_run rfl (Zf rfl (Zx b)) rfl (Zp F58_2 rfl rfl rfl (WL_run rfl (Zf rfl (Zx b)) rfl (Zn ((d).f1) A4 rfl rfl rfl (WL_run rfl (Zf rfl (Zx b)) rfl (Zp F58_2 rfl rfl rfl (WL_run rfl (Zf rfl (Zx b)) rfl (Zn (d) A4 rfl rfl rfl (WL_run rfl (Zf rfl (Zx b)) rfl (Exec.bool_eql Try.underlying4 rfl rfl rfl ?_)))))))))
   refine WL_passes 2 (by rw [b]; rfl) ?_
   rcases ite_some a with ⟨c, a⟩ | ⟨c, a⟩
   ·refine WL_run rfl (Zf rfl (Zx c)) rfl (Zp F58_0 rfl rfl rfl (WL_run rfl (Zf rfl (Zx c)) rfl (Exec.load_box_agg (ds := [j, k, l]) ((d).f1) A47 rfl rfl rfl (WL_run rfl (Zf rfl (Zx c)) rfl (Zp F58_0 rfl rfl rfl (WL_run rfl (Zf rfl (Zx c)) rfl (Exec.load_box_agg (ds := [m, n, o]) (d) A47 rfl rfl rfl ?_)))))))
    obtain ⟨az, ai, a⟩ := Zg a
    refine WL_run rfl (Zf rfl (Zx c)) rfl (Tc rfl rfl rfl (Zi rfl (Zi rfl args_nil)) (simplify_sameCond_sim ai d t u x y z aa).r ?_)
    rintro _ ax ⟨aj, af, ad, rfl⟩
    refine WL_passes 2 (by rw [c]; rfl) ?_
    refine Zb (Ze ?_)
    have ao := Zu a
    subst i
    exact ⟨aj, af, ((ad).drop).drop, rfl⟩
   replace c := Zk c
   refine WL_passes 7 (by rw [c]; rfl) ?_
   refine Zb (Ze ?_)
   have ap := Zu a
   subst i
   exact ⟨s, (Zv _), ((d).drop).drop, rfl⟩
  replace b := Zk b
  refine WL_passes 14 (by rw [b]; rfl) ?_
  refine Zb (Ze ?_)
  have aq := Zu a
  subst i
  exact ⟨s, (Zv _), ((d).drop).drop, rfl⟩
 intro au ay ab
 obtain ⟨ak, ag, ae, ah⟩ := ab
 refine (Ze (W_ret ?_))
 have ar := Zu hm
 subst r
 refine ⟨_, ret1 rfl, ?_⟩
 exact ⟨ak, ag, ae, ah⟩
theorem api_GChange__f113_sim {w0 w : World} {s : PHeap} {H : List Res} {fu : Nat} {o : (List GChange)} {aw : (List GChange)} {b : Value} {c : Value} {r : Bool} (hm : api_GChange__f113_p fu o aw = some r) (hS : St w0 s (H) w) (l : SliceRep encGChange s b o) (ab : SliceRep encGChange s c aw) :
  Calls Try.prog 112 #[b, c, Value.func (.func 113) #[] #[]] w fun e w' => ∃ v, e = .returned v ∧ ((fun (aV : Bool) => ∃ (ax : PHeap) , PHeap.le s ax ∧ St w0 ax (H) w' ∧ v = Value.bool (aV)) r) := by
 unfold api_GChange__f113_p at hm
 refine calls_of_W Try.func112 rfl rfl (Zc (Zd (Za rfl rfl (Zo (v := Value.bool (false)) rfl rfl (Zb (Ze (Zc (Zc (Zd (Za rfl rfl (Zm (v := b) rfl rfl (Za rfl rfl (Zr S48 rfl rfl l (Za rfl rfl (Zm (v := c) rfl rfl (Za rfl rfl (Zr S48 rfl rfl ab (Za rfl rfl (Exec.neq rfl rfl rfl (Zb (Ze ?_)))))))))))))))))))))
 rcases ite_some hm with ⟨i, hm⟩ | ⟨i, hm⟩
 ·refine W_cond_t rfl i (Zc (Zd (Za rfl rfl (Zo (v := Value.bool (false)) rfl rfl (Zb (Ze (W_ret (at_ret ?_))))))))
  have ba := Zu hm
  subst r
  refine ⟨_, ret1 rfl, ?_⟩
  exact ⟨s, (Zv _), hS, rfl⟩
 refine W_cond_f rfl i ?_
 replace i := Zk i
 refine W_skip (Ze (Zc (Zc (Zd (Za rfl rfl (Zm (v := b) rfl rfl (Za rfl rfl (Zr S48 rfl rfl l (Za rfl rfl (Zm (v := Vi (0)) rfl rfl (Zb (Ze ?_))))))))))))
 obtain ⟨ac, a3, aF, aD, aB⟩ := ctl_some hm
 refine W_mid (M := fun f' w' => ∃ s', (ac = .next s' ∨ ac = .brk s') ∧ (fun (_ : Unit) => ∃ (ay : PHeap) , PHeap.le s ay ∧ St w0 ay (H) w' ∧ f' 1 = c ∧ f' 2 = Value.func (.func 113) #[] #[] ∧ f' 15 = b ∧ f' 16 = Vi ((o.length : Int))) s') ?_ ?_
 ·refine W_block (W_forC (fun k' s' f' w' => (fun (_ : Unit) => ∃ (az : PHeap) , PHeap.le s az ∧ St w0 az (H) w' ∧ f' 1 = c ∧ f' 2 = Value.func (.func 113) #[] #[] ∧ f' 15 = b ∧ f' 16 = Vi ((o.length : Int)) ∧ f' 17 = Vi (k' : Int)) s') a3 ?_ ?_ ?_)
  ·exact ⟨s, (Zv _), hS, rfl, rfl, rfl, rfl, rfl⟩
  ·intro m bp ad bf bu aC a4 a aG
   obtain ⟨bo, n, ae, aj, ak, al, am, p⟩ := a4
   refine Zc (Zd (Za rfl rfl (Zq rfl p am (Zb (Ze (Zc (W_true (Zx (decide_eq_true (by omega))) (W_skip (Ze (Zc (W_block (Zc (Zd (Za rfl rfl (Zm (v := Vi ((m : Int))) rfl p ?_)))))))))))))))
   obtain ⟨d, aN, a⟩ := Zg a
   refine Za rfl rfl (Exec.index_rep S48 rfl al p (l.mono n) aN ?_)
   intro aW bi a1
   refine Za rfl rfl (Zw (E := encGChange) ae A58 rfl rfl rfl a1 ?_)
   intro bs aO
   obtain ⟨t, u, x, rfl, ao, ap, aq⟩ := encGChange_val.1 aO
   refine Za rfl rfl (Exec.alloc (cs := [Value.slice none 0 0, Value.slice none 0 0, Value.slice none 0 0, Vi (0), Value.bool (false)]) ae Z58 rfl rfl ?_)
   intro aX bv a7
   refine Za rfl rfl (Zo (v := Vi ((m : Int))) rfl rfl (Za rfl rfl (Exec.store_box (ds := [t, u, x, Vi (d.Atom), Value.bool (d.Add)]) (es := [t, u, x, Vi (d.Atom), Value.bool (d.Add)]) a7 A58 rfl rfl rfl rfl (Zj (ao).one (Zj (ap).one (Zj (aq).one (Zj rfl (Zj rfl one_nil))))) (Nat.le_of_ble_eq_true rfl) rfl ?_)))
   intro bw af
   refine Zb (Ze (Zc (Zd (Za rfl rfl (Zm (v := c) rfl aj (Za rfl rfl (Zm (v := Vi ((m : Int))) rfl rfl ?_)))))))
   obtain ⟨g, aP, a⟩ := Zg a
   refine Za rfl rfl (Exec.index_rep S48 rfl rfl rfl (ab.mono n) aP ?_)
   intro aY bj a2
   refine Za rfl rfl (Zw (E := encGChange) af A58 rfl rfl rfl a2 ?_)
   intro bt aQ
   obtain ⟨y, z, aa, rfl, ar, au, av⟩ := encGChange_val.1 aQ
   refine Za rfl rfl (Exec.alloc (cs := [Value.slice none 0 0, Value.slice none 0 0, Value.slice none 0 0, Vi (0), Value.bool (false)]) af Z58 rfl rfl ?_)
   intro aZ bx a8
   refine Za rfl rfl (Exec.store_box (ds := [y, z, aa, Vi (g.Atom), Value.bool (g.Add)]) (es := [y, z, aa, Vi (g.Atom), Value.bool (g.Add)]) a8 A58 rfl rfl rfl rfl (Zj (ar).one (Zj (au).one (Zj (av).one (Zj rfl (Zj rfl one_nil))))) (Nat.le_of_ble_eq_true rfl) rfl ?_)
   intro bz q
   refine Zb (Ze (Zc (Zd (Za rfl rfl (Zm (v := Value.func (.func 113) #[] #[]) rfl ak (Za rfl rfl (Exec.load_box_agg (ds := [t, u, x, Vi (d.Atom), Value.bool (d.Add)]) ((q).f1) A58 rfl rfl rfl (Za rfl rfl (Exec.load_box_agg (ds := [y, z, aa, Vi (g.Atom), Value.bool (g.Add)]) (q) A58 rfl rfl rfl ?_)))))))))
   obtain ⟨b3, aR, a⟩ := Zg a
   refine Za rfl rfl (Exec.callf rfl rfl Try.func113 rfl N113 (Zi rfl (Zi rfl args_nil)) ((simplify_alike_c1_sim aR q ao ap aq ar au av).mono ?_))
   rintro _ b0 ⟨_, rfl, ⟨a0, ai, ag, rfl⟩⟩
   refine ⟨_, rfl, ?_⟩
   refine Za rfl rfl (Exec.not rfl rfl (Zb (Ze ?_)))
   rcases ite_some a with ⟨j, a⟩ | ⟨j, a⟩
   ·refine W_cond_t rfl j (Zc (Zd (Za rfl rfl (Zo (v := Value.bool (false)) rfl rfl (Zb (Ze (W_ret (ib_ret (at_ret (at_ret (ib_ret (at_ret (at_ret ?_)))))))))))))
    have bb := Zu a
    subst ad
    have aE := aF _ (aG (by intro _ h; cases h))
    have bc := Zu aE
    subst r
    refine ⟨_, ret1 rfl, ?_⟩
    exact ⟨a0, (Zt n ai), ((ag).drop).drop, rfl⟩
   refine W_cond_f rfl j ?_
   replace j := Zk j
   refine W_skip (ib_normal (Ze (Zd (Za rfl rfl (Exec.add rfl p rfl (Za rfl rfl (Zm (v := Vi (IntKind.i64.wrap ((m : Int) + 1))) rfl rfl (Zb (Ze ?_)))))))))
   have bd := Zu a
   subst ad
   refine ⟨_, rfl, ?_⟩; exact ⟨a0, (Zt n ai), ((ag).drop).drop, aj, ak, al, am, (Eq.trans rfl (wrap_up aC (SliceRep.le l)))⟩
  intro bq bg b1 a5 aH
  obtain ⟨aS, aI, a9, aK, aL, aM, an, aU⟩ := a5
  refine Zc (Zd (Za rfl rfl (Zq rfl aU an (Zb (Ze (Zc (W_false (Zx (decide_eq_false (by omega))) (W_exit (at_exit (at_exit (ib_here (Ze ?_))))))))))))
  refine ⟨_, .inl aH, ?_⟩; exact ⟨aS, aI, a9, aK, aL, aM, an⟩
 rintro bh b2 ⟨br, ah, a6⟩
 have hm := ah.elim (aD _) (aB _)
 clear ah
 obtain ⟨aT, aJ, aA, bk, bl, bm, bn⟩ := a6
 refine (Ze (Zc (Zd (Za rfl rfl (Zo (v := Value.bool (true)) rfl rfl (Zb (Ze (W_ret ?_))))))))
 have be := Zu hm
 subst r
 refine ⟨_, ret1 rfl, ?_⟩
 exact ⟨aT, aJ, aA, rfl⟩
theorem N115 : (Try.f115.name == "runtime.NumGoroutine") = false := by kernel_rfl
theorem simplify_alike_c2_sim {w0 w : World} {s : PHeap} {H : List Res} {fu : Nat} {a : GAssign} {b : GAssign} {i : Value} {j : Value} {r : Bool} (hm : simplify_alike_c2_p fu a b = some r) (hS : St w0 s (H) w) (m : SliceRep encGExpr s i a.Value.Kids) (n : SliceRep encGExpr s j b.Value.Kids) :
  Calls Try.prog 115 #[Value.agg #[Vi (a.Fluent), Value.string (a.Value.Op), Vi (a.Value.N), i], Value.agg #[Vi (b.Fluent), Value.string (b.Value.Op), Vi (b.Value.N), j]] w fun e w' => ∃ v, e = .returned v ∧ ((fun (ac : Bool) => ∃ (k : PHeap) , PHeap.le s k ∧ St w0 k (H) w' ∧ v = Value.bool (ac)) r) := by
 unfold simplify_alike_c2_p at hm
 refine calls_of_W Try.func115 rfl rfl (Zc (Zd (Za rfl rfl (Exec.box (cs := [Vi (a.Fluent), Value.string (a.Value.Op), Vi (a.Value.N), i]) hS rfl rfl rfl ?_))))
 intro ad aj p
 refine Za rfl rfl (Exec.box (cs := [Vi (b.Fluent), Value.string (b.Value.Op), Vi (b.Value.N), j]) p rfl rfl rfl ?_)
 intro ae ak g
 refine Za rfl rfl (Zo (v := Value.bool (false)) rfl rfl (Zb (Ze (Zc ?_))))
 obtain ⟨h, d, hm⟩ := Zg hm
 refine W_mid (M := fun f' w' => (fun (h : Bool) => ∃ (l : PHeap) , PHeap.le s l ∧ St w0 l (H) w' ∧ f' 4 = Value.bool (h)) h) ?_ ?_
 ·refine Zd (Za rfl rfl (Zp F84_0 rfl rfl rfl (Za rfl rfl (Zn ((g).f1) A3 rfl rfl rfl (Za rfl rfl (Zp F84_0 rfl rfl rfl (Za rfl rfl (Zn (g) A3 rfl rfl rfl (Za rfl rfl (Exec.eql rfl rfl rfl (Za rfl rfl (Zm (v := Value.bool (decide (a.Fluent = b.Fluent))) rfl rfl ?_))))))))))))
  rcases ite_some d with ⟨c, d⟩ | ⟨c, d⟩
  ·refine WL_run rfl (Zf rfl (Zx c)) rfl (Zp F84_1 rfl rfl rfl (WL_run rfl (Zf rfl (Zx c)) rfl (Exec.load_box_agg (ds := [Value.string (a.Value.Op), Vi (a.Value.N), i]) ((g).f1) A82 rfl rfl rfl (WL_run rfl (Zf rfl (Zx c)) rfl (Zp F84_1 rfl rfl rfl (WL_run rfl (Zf rfl (Zx c)) rfl (Exec.load_box_agg (ds := [Value.string (b.Value.Op), Vi (b.Value.N), j]) (g) A82 rfl rfl rfl ?_)))))))
   obtain ⟨an, z, d⟩ := Zg d
   refine WL_run rfl (Zf rfl (Zx c)) rfl (Tc rfl rfl rfl (Zi rfl (Zi rfl args_nil)) (simplify_sameExpr_sim z g m n).r ?_)
   rintro _ al ⟨aa, u, q, rfl⟩
   refine WL_passes 2 (by rw [c]; rfl) ?_
   refine Zb (Ze ?_)
   have af := Zu d
   subst h
   exact ⟨aa, u, ((q).drop).drop, rfl⟩
  replace c := Zk c
  refine WL_passes 7 (by rw [c]; rfl) ?_
  refine Zb (Ze ?_)
  have ag := Zu d
  subst h
  exact ⟨s, (Zv _), ((g).drop).drop, rfl⟩
 intro ai am o
 obtain ⟨ab, x, t, y⟩ := o
 refine (Ze (W_ret ?_))
 have ah := Zu hm
 subst r
 refine ⟨_, ret1 rfl, ?_⟩
 exact ⟨ab, x, t, y⟩
theorem api_GAssign__f115_sim {w0 w : World} {s : PHeap} {H : List Res} {fu : Nat} {o : (List GAssign)} {am : (List GAssign)} {d : Value} {g : Value} {r : Bool} (hm : api_GAssign__f115_p fu o am = some r) (hS : St w0 s (H) w) (l : SliceRep encGAssign s d o) (x : SliceRep encGAssign s g am) :
  Calls Try.prog 114 #[d, g, Value.func (.func 115) #[] #[]] w fun e w' => ∃ v, e = .returned v ∧ ((fun (aN : Bool) => ∃ (an : PHeap) , PHeap.le s an ∧ St w0 an (H) w' ∧ v = Value.bool (aN)) r) := by
 unfold api_GAssign__f115_p at hm
 refine calls_of_W Try.func114 rfl rfl (Zc (Zd (Za rfl rfl (Zo (v := Value.bool (false)) rfl rfl (Zb (Ze (Zc (Zc (Zd (Za rfl rfl (Zm (v := d) rfl rfl (Za rfl rfl (Zr S49 rfl rfl l (Za rfl rfl (Zm (v := g) rfl rfl (Za rfl rfl (Zr S49 rfl rfl x (Za rfl rfl (Exec.neq rfl rfl rfl (Zb (Ze ?_)))))))))))))))))))))
 rcases ite_some hm with ⟨i, hm⟩ | ⟨i, hm⟩
 ·refine W_cond_t rfl i (Zc (Zd (Za rfl rfl (Zo (v := Value.bool (false)) rfl rfl (Zb (Ze (W_ret (at_ret ?_))))))))
  have aS := Zu hm
  subst r
  refine ⟨_, ret1 rfl, ?_⟩
  exact ⟨s, (Zv _), hS, rfl⟩
 refine W_cond_f rfl i ?_
 replace i := Zk i
 refine W_skip (Ze (Zc (Zc (Zd (Za rfl rfl (Zm (v := d) rfl rfl (Za rfl rfl (Zr S49 rfl rfl l (Za rfl rfl (Zm (v := Vi (0)) rfl rfl (Zb (Ze ?_))))))))))))
 obtain ⟨y, av, a7, a5, a3⟩ := ctl_some hm
 refine W_mid (M := fun f' w' => ∃ s', (y = .next s' ∨ y = .brk s') ∧ (fun (_ : Unit) => ∃ (ao : PHeap) , PHeap.le s ao ∧ St w0 ao (H) w' ∧ f' 1 = g ∧ f' 2 = Value.func (.func 115) #[] #[] ∧ f' 15 = d ∧ f' 16 = Vi ((o.length : Int))) s') ?_ ?_
 ·refine W_block (W_forC (fun k' s' f' w' => (fun (_ : Unit) => ∃ (ap : PHeap) , PHeap.le s ap ∧ St w0 ap (H) w' ∧ f' 1 = g ∧ f' 2 = Value.func (.func 115) #[] #[] ∧ f' 15 = d ∧ f' 16 = Vi ((o.length : Int)) ∧ f' 17 = Vi (k' : Int)) s') av ?_ ?_ ?_)
  ·exact ⟨s, (Zv _), hS, rfl, rfl, rfl, rfl, rfl⟩
  ·intro m bh z aX bm a4 aw a a8
   obtain ⟨bg, n, aa, af, ag, ah, ai, p⟩ := aw
   refine Zc (Zd (Za rfl rfl (Zq rfl p ai (Zb (Ze (Zc (W_true (Zx (decide_eq_true (by omega))) (W_skip (Ze (Zc (W_block (Zc (Zd (Za rfl rfl (Zm (v := Vi ((m : Int))) rfl p ?_)))))))))))))))
   obtain ⟨b, aF, a⟩ := Zg a
   refine Za rfl rfl (Exec.index_rep S49 rfl ah p (l.mono n) aF ?_)
   intro aO ba ar
   refine Za rfl rfl (Zw (E := encGAssign) aa A84 rfl rfl rfl ar ?_)
   intro bk aG
   obtain ⟨t, rfl, ak⟩ := encGAssign_val.1 aG
   refine Za rfl rfl (Exec.alloc (cs := [Vi (0), Value.string (⟨#[]⟩), Vi (0), Value.slice none 0 0]) aa Z84 rfl rfl ?_)
   intro aP bn az
   refine Za rfl rfl (Zo (v := Vi ((m : Int))) rfl rfl (Za rfl rfl (Exec.store_box (ds := [Vi (b.Fluent), Value.string (b.Value.Op), Vi (b.Value.N), t]) (es := [Vi (b.Fluent), Value.string (b.Value.Op), Vi (b.Value.N), t]) az A84 rfl rfl rfl rfl (Zj rfl (Zj rfl (Zj rfl (Zj (ak).one one_nil)))) (Nat.le_of_ble_eq_true rfl) rfl ?_)))
   intro bo ab
   refine Zb (Ze (Zc (Zd (Za rfl rfl (Zm (v := g) rfl af (Za rfl rfl (Zm (v := Vi ((m : Int))) rfl rfl ?_)))))))
   obtain ⟨c, aH, a⟩ := Zg a
   refine Za rfl rfl (Exec.index_rep S49 rfl rfl rfl (x.mono n) aH ?_)
   intro aQ bb au
   refine Za rfl rfl (Zw (E := encGAssign) ab A84 rfl rfl rfl au ?_)
   intro bl aI
   obtain ⟨u, rfl, al⟩ := encGAssign_val.1 aI
   refine Za rfl rfl (Exec.alloc (cs := [Vi (0), Value.string (⟨#[]⟩), Vi (0), Value.slice none 0 0]) ab Z84 rfl rfl ?_)
   intro aR bp a0
   refine Za rfl rfl (Exec.store_box (ds := [Vi (c.Fluent), Value.string (c.Value.Op), Vi (c.Value.N), u]) (es := [Vi (c.Fluent), Value.string (c.Value.Op), Vi (c.Value.N), u]) a0 A84 rfl rfl rfl rfl (Zj rfl (Zj rfl (Zj rfl (Zj (al).one one_nil)))) (Nat.le_of_ble_eq_true rfl) rfl ?_)
   intro bq q
   refine Zb (Ze (Zc (Zd (Za rfl rfl (Zm (v := Value.func (.func 115) #[] #[]) rfl ag (Za rfl rfl (Exec.load_box_agg (ds := [Vi (b.Fluent), Value.string (b.Value.Op), Vi (b.Value.N), t]) ((q).f1) A84 rfl rfl rfl (Za rfl rfl (Exec.load_box_agg (ds := [Vi (c.Fluent), Value.string (c.Value.Op), Vi (c.Value.N), u]) (q) A84 rfl rfl rfl ?_)))))))))
   obtain ⟨bu, aJ, a⟩ := Zg a
   refine Za rfl rfl (Exec.callf rfl rfl Try.func115 rfl N115 (Zi rfl (Zi rfl args_nil)) ((simplify_alike_c2_sim aJ q ak al).mono ?_))
   rintro _ br ⟨_, rfl, ⟨aq, ae, ac, rfl⟩⟩
   refine ⟨_, rfl, ?_⟩
   refine Za rfl rfl (Exec.not rfl rfl (Zb (Ze ?_)))
   rcases ite_some a with ⟨j, a⟩ | ⟨j, a⟩
   ·refine W_cond_t rfl j (Zc (Zd (Za rfl rfl (Zo (v := Value.bool (false)) rfl rfl (Zb (Ze (W_ret (ib_ret (at_ret (at_ret (ib_ret (at_ret (at_ret ?_)))))))))))))
    have aT := Zu a
    subst z
    have a6 := a7 _ (a8 (by intro _ h; cases h))
    have aU := Zu a6
    subst r
    refine ⟨_, ret1 rfl, ?_⟩
    exact ⟨aq, (Zt n ae), ((ac).drop).drop, rfl⟩
   refine W_cond_f rfl j ?_
   replace j := Zk j
   refine W_skip (ib_normal (Ze (Zd (Za rfl rfl (Exec.add rfl p rfl (Za rfl rfl (Zm (v := Vi (IntKind.i64.wrap ((m : Int) + 1))) rfl rfl (Zb (Ze ?_)))))))))
   have aV := Zu a
   subst z
   refine ⟨_, rfl, ?_⟩; exact ⟨aq, (Zt n ae), ((ac).drop).drop, af, ag, ah, ai, (Eq.trans rfl (wrap_up a4 (SliceRep.le l)))⟩
  intro bi aY bs ax a9
  obtain ⟨aK, aA, a1, aC, aD, aE, aj, aM⟩ := ax
  refine Zc (Zd (Za rfl rfl (Zq rfl aM aj (Zb (Ze (Zc (W_false (Zx (decide_eq_false (by omega))) (W_exit (at_exit (at_exit (ib_here (Ze ?_))))))))))))
  refine ⟨_, .inl a9, ?_⟩; exact ⟨aK, aA, a1, aC, aD, aE, aj⟩
 rintro aZ bt ⟨bj, ad, ay⟩
 have hm := ad.elim (a5 _) (a3 _)
 clear ad
 obtain ⟨aL, aB, a2, bc, bd, be, bf⟩ := ay
 refine (Ze (Zc (Zd (Za rfl rfl (Zo (v := Value.bool (true)) rfl rfl (Zb (Ze (W_ret ?_))))))))
 have aW := Zu hm
 subst r
 refine ⟨_, ret1 rfl, ?_⟩
 exact ⟨aL, aB, a2, rfl⟩
theorem simplify_alike_sim {w0 w : World} {s : PHeap} {H : List Res} {fu : Nat} {b : GOp} {c : GOp} {m : Value} {n : Value} {o : Value} {x : Value} {y : Value} {p : Value} {q : Value} {t : Value} {z : Value} {aa : Value} {r : Bool} (hm : simplify_alike_p fu b c = some r) (hS : St w0 s (H) w) (ad : SliceRep (encInt .i64) s m b.Pre.Pos) (ae : SliceRep (encInt .i64) s n b.Pre.Neg) (af : SliceRep encGTest s o b.Pre.Tests) (ag : SliceRep encGChange s x b.Changes) (ah : SliceRep encGAssign s y b.Assigns) (ai : SliceRep (encInt .i64) s p c.Pre.Pos) (aj : SliceRep (encInt .i64) s q c.Pre.Neg) (ak : SliceRep encGTest s t c.Pre.Tests) (al : SliceRep encGChange s z c.Changes) (am : SliceRep encGAssign s aa c.Assigns) :
  Calls Try.prog 83 #[Value.agg #[Value.string (b.Name), Vi (b.Cost), m, n, o, x, y], Value.agg #[Value.string (c.Name), Vi (c.Cost), p, q, t, z, aa]] w fun e w' => ∃ v, e = .returned v ∧ ((fun (a3 : Bool) => ∃ (ab : PHeap) , PHeap.le s ab ∧ St w0 ab (H) w' ∧ v = Value.bool (a3)) r) := by
 unfold simplify_alike_p at hm
 refine calls_of_W Try.func83 rfl rfl (Zc (Zd (Za rfl rfl (Exec.box (cs := [Value.string (b.Name), Vi (b.Cost), m, n, o, x, y]) hS rfl rfl rfl ?_))))
 intro a5 aC ao
 refine Za rfl rfl (Exec.box (cs := [Value.string (c.Name), Vi (c.Cost), p, q, t, z, aa]) ao rfl rfl rfl ?_)
 intro a6 aD u
 refine Za rfl rfl (Zo (v := Value.bool (false)) rfl rfl (Zb (Ze (Zc ?_))))
 obtain ⟨i, a, hm⟩ := Zg hm
 refine W_mid (M := fun f' w' => (fun (i : Bool) => ∃ (ac : PHeap) , PHeap.le s ac ∧ St w0 ac (H) w' ∧ f' 4 = Value.bool (i)) i) ?_ ?_
 ·refine Zd (Za rfl rfl (Zp F51_2 rfl rfl rfl (Za rfl rfl (Exec.load_box_agg (ds := [m, n, o]) ((u).f1) A47 rfl rfl rfl (Za rfl rfl (Zp F51_2 rfl rfl rfl (Za rfl rfl (Exec.load_box_agg (ds := [p, q, t]) (u) A47 rfl rfl rfl ?_))))))))
  obtain ⟨a4, aw, a⟩ := Zg a
  refine Za rfl rfl (Tc rfl rfl rfl (Zi rfl (Zi rfl args_nil)) (simplify_sameCond_sim aw u ad ae af ai aj ak).r ?_)
  rintro _ aE ⟨az, h, j, rfl⟩
  refine Za rfl rfl (Zm (v := Value.bool (a4)) rfl rfl ?_)
  rcases ite_some a with ⟨d, a⟩ | ⟨d, a⟩
  ·refine WL_run rfl (Zf rfl (Zx d)) rfl (Zp F51_3 rfl rfl rfl (WL_run rfl (Zf rfl (Zx d)) rfl (Zn ((j).f1) A48 rfl rfl rfl (WL_run rfl (Zf rfl (Zx d)) rfl (Zp F51_3 rfl rfl rfl (WL_run rfl (Zf rfl (Zx d)) rfl (Zn (j) A48 rfl rfl rfl ?_)))))))
   obtain ⟨aI, ax, a⟩ := Zg a
   refine WL_run rfl (Zf rfl (Zx d)) rfl (Tc rfl rfl rfl (Zi rfl (Zi rfl (Zi rfl args_nil))) (api_GChange__f113_sim ax j (ag.mono h) (al.mono h)).r ?_)
   rintro _ aF ⟨a0, l, k, rfl⟩
   refine WL_passes 2 (by rw [d]; rfl) ?_
   rcases ite_some a with ⟨g, a⟩ | ⟨g, a⟩
   ·refine WL_run rfl (Zf rfl (Zx g)) rfl (Zp F51_4 rfl rfl rfl (WL_run rfl (Zf rfl (Zx g)) rfl (Zn ((k).f1) A49 rfl rfl rfl (WL_run rfl (Zf rfl (Zx g)) rfl (Zp F51_4 rfl rfl rfl (WL_run rfl (Zf rfl (Zx g)) rfl (Zn (k) A49 rfl rfl rfl ?_)))))))
    obtain ⟨aJ, ay, a⟩ := Zg a
    refine WL_run rfl (Zf rfl (Zx g)) rfl (Tc rfl rfl rfl (Zi rfl (Zi rfl (Zi rfl args_nil))) (api_GAssign__f115_sim ay k (ah.mono (Zt h l)) (am.mono (Zt h l))).r ?_)
    rintro _ aG ⟨a1, ar, ap, rfl⟩
    refine WL_passes 2 (by rw [g]; rfl) ?_
    refine Zb (Ze ?_)
    have a7 := Zu a
    subst i
    exact ⟨a1, (Zt (Zt h l) ar), ((ap).drop).drop, rfl⟩
   replace g := Zk g
   refine WL_passes 7 (by rw [g]; rfl) ?_
   refine Zb (Ze ?_)
   have a8 := Zu a
   subst i
   exact ⟨a0, (Zt h l), ((k).drop).drop, rfl⟩
  replace d := Zk d
  refine WL_passes 14 (by rw [d]; rfl) ?_
  refine Zb (Ze ?_)
  have a9 := Zu a
  subst i
  exact ⟨az, h, ((j).drop).drop, rfl⟩
 intro aB aH an
 obtain ⟨a2, au, aq, av⟩ := an
 refine (Ze (W_ret ?_))
 have aA := Zu hm
 subst r
 refine ⟨_, ret1 rfl, ?_⟩
 exact ⟨a2, au, aq, av⟩
theorem simplify_Map_operators_sim {w0 w : World} {s : PHeap} {H : List Res} {fu : Nat} {bd : simplify_Map} {aq : Ground} {a : simplify_sets} {aC : Value} {aD : Value} {aE : Value} {aS : Value} {aT : Value} {aU : Value} {aV : Value} {a1 : Value} {aa : Nat} {i : Value} {j : Value} {r : (List GOp) × (List Int)} (hm : simplify_Map_operators_p fu bd aq a = some r) (hS : St w0 s (Res.box aa 90 [i, j, Value.bool (a.changed)] :: Res.arr encBool 4 i a.atoms :: Res.arr encBool 4 j a.fluents :: H) w) (dc : SliceRep (encInt .i64) s aC bd.Atoms) (dd : SliceRep (encInt .i64) s aD bd.Fluents) (de : SliceRep (encInt .i64) s aE bd.Ops) (fL : SliceRep encAtom s aS aq.Atoms) (fM : SliceRep encGFluent s aT aq.Fluents) (fN : SliceRep (encInt .i64) s aU aq.Init) (fO : SliceRep encCond s aV aq.Goal) (aX : SliceRep encGOp s a1 aq.Ops) :
  Calls Try.prog 38 #[Value.agg #[aC, aD, aE], Value.agg #[aS, aT, aU, aV, a1], Value.pointer (some ⟨aa, 0, none⟩)] w fun e w' => ∃ v, e = .returned v ∧ ((un2 fun (fH : (List GOp)) (fI : (List Int)) => ∃ (bm : PHeap) (cX : Value) (cY : Value), PHeap.le s bm ∧ St w0 bm (Res.box aa 90 [i, j, Value.bool (a.changed)] :: Res.arr encBool 4 i a.atoms :: Res.arr encBool 4 j a.fluents :: H) w' ∧ v = Value.tuple #[cX, cY] ∧ SliceRep encGOp bm cX fH ∧ SliceRep (encInt .i64) bm cY fI) r) := by
 unfold simplify_Map_operators_p at hm
 refine calls_of_W Try.func38 rfl rfl (Zc (Zd (Za rfl rfl (Exec.box (cs := [aC, aD, aE]) hS rfl rfl rfl ?_))))
 intro aY gU dy
 refine Za rfl rfl (Exec.box (cs := [aS, aT, aU, aV, a1]) dy rfl rfl rfl ?_)
 intro aZ gV cf
 refine Za rfl rfl (Zo (v := Value.slice none 0 0) rfl rfl (Za rfl rfl (Zo (v := Value.slice none 0 0) rfl rfl (Zb (Ze (Zc (Zd (Za rfl rfl (Zo (v := Value.slice none 0 0) rfl rfl (Zb (Ze (Zc (Zd (Za rfl rfl (Zo (v := Value.slice none 0 0) rfl rfl (Zb (Ze (Zc (Zc (Zd (Za rfl rfl (Zp F28_4 rfl rfl rfl (Za rfl rfl (Zn (cf) A26 rfl rfl rfl (Za rfl rfl (Zr S26 rfl rfl aX (Za rfl rfl (Zm (v := Vi (0)) rfl rfl (Zb (Ze ?_))))))))))))))))))))))))))))))
 obtain ⟨f9, dg, hm⟩ := Zg hm
 refine W_block (W_forS (fun k' s' f' w' => (un2 fun (n : (List GOp)) (ao : (List Int)) => ∃ (cL : PHeap) (b : Value) (l : Value), PHeap.le s cL ∧ St w0 cL (Res.box aa 90 [i, j, Value.bool (a.changed)] :: Res.arr encBool 4 i a.atoms :: Res.arr encBool 4 j a.fluents :: Res.box aY 32 [aC, aD, aE] :: Res.box aZ 28 [aS, aT, aU, aV, a1] :: Res.arr encGOp 51 b n :: Res.arr (encInt .i64) 3 l ao :: H) w' ∧ f' 2 = Value.pointer (some ⟨aa, 0, none⟩) ∧ f' 3 = Value.pointer (some ⟨aY, 0, none⟩) ∧ f' 4 = Value.pointer (some ⟨aZ, 0, none⟩) ∧ f' 8 = b ∧ f' 9 = l ∧ f' 21 = a1 ∧ f' 22 = Vi ((aq.Ops.length : Int)) ∧ f' 23 = Vi (k' : Int)) s') dg ?_ ?_ ?_)
 ·have dz := cf.nilArr encGOp 51
  have d0 := dz.nilArr (encInt .i64) 3
  exact ⟨s, (Value.slice none 0 0), (Value.slice none 0 0), (Zv _), ((((((d0).f1).f2).f3).f6).f6).f6, rfl, rfl, rfl, rfl, rfl, rfl, rfl, rfl⟩
 ·intro al fA fp gq gW dO dk af
  obtain ⟨n, ao⟩ := fA
  replace af := un2_eq af
  obtain ⟨gN, b, l, aJ, cg, bC, bD, cv, cw, cx, bE, bF, aW⟩ := dk
  refine Zc (Zd (Za rfl rfl (Zq rfl aW bF (Zb (Ze (Zc (W_true (Zx (decide_eq_true (by omega))) (W_skip (Ze (Zc (W_block (Zc (Zd (Za rfl rfl (Zm (v := Vi ((al : Int))) rfl aW ?_)))))))))))))))
  obtain ⟨ax, eT, af⟩ := Zg af
  refine Za rfl rfl (Exec.index_rep S26 rfl bE aW (aX.mono aJ) eT ?_)
  intro fP gE df
  refine Za rfl rfl (Zw (E := encGOp) cg A51 rfl rfl rfl df ?_)
  intro gQ eU
  obtain ⟨bq, br, bs, bt, bu, rfl, bL, bM, bN, bO, bP⟩ := encGOp_val.1 eU
  refine Za rfl rfl (Exec.alloc (cs := [Value.string (⟨#[]⟩), Vi (0), Value.slice none 0 0, Value.slice none 0 0, Value.slice none 0 0, Value.slice none 0 0, Value.slice none 0 0]) cg Z51 rfl rfl ?_)
  intro fQ gX d1
  refine Za rfl rfl (Zo (v := Vi ((al : Int))) rfl rfl (Za rfl rfl (Exec.store_box (ds := [Value.string (ax.Name), Vi (ax.Cost), bq, br, bs, bt, bu]) (es := [Value.string (ax.Name), Vi (ax.Cost), bq, br, bs, bt, bu]) d1 A51 rfl rfl rfl rfl (Zj rfl (Zj rfl (Zj (bL).one (Zj (bM).one (Zj (bN).one (Zj (bO).one (Zj (bP).one one_nil))))))) (Nat.le_of_ble_eq_true rfl) rfl ?_)))
  intro gY ch
  refine Zb (Ze (Zc (Zd (Za rfl rfl (Zm (v := Value.pointer (some ⟨aa, 0, none⟩)) rfl bC (Za rfl rfl (Exec.load_box_agg (ds := [Value.string (ax.Name), Vi (ax.Cost), bq, br, bs, bt, bu]) (ch) A51 rfl rfl rfl ?_)))))))
  obtain ⟨h5, eV, af⟩ := Zg af
  refine Za rfl rfl (Tc rfl rfl rfl (Zi rfl (Zi rfl args_nil)) (simplify_sets_touches_sim eV (((ch).f3).f3).f3 bL bM bN bO bP).r ?_)
  rintro _ gZ ⟨cM, an, bb, rfl⟩
  refine Zb (Ze ?_)
  obtain ⟨bo, ah, af⟩ := Zg af
  refine W_mid (M := fun f' w' => (un2 fun (cn : (List GOp)) (co : (List Int)) => ∃ (cN : PHeap) (b1 : Value) (b2 : Value), PHeap.le cM cN ∧ St w0 cN (Res.box aa 90 [i, j, Value.bool (a.changed)] :: Res.arr encBool 4 i a.atoms :: Res.arr encBool 4 j a.fluents :: Res.box aY 32 [aC, aD, aE] :: Res.box aZ 28 [aS, aT, aU, aV, a1] :: Res.arr encGOp 51 b1 cn :: Res.arr (encInt .i64) 3 b2 co :: H) w' ∧ f' 2 = Value.pointer (some ⟨aa, 0, none⟩) ∧ f' 3 = Value.pointer (some ⟨aY, 0, none⟩) ∧ f' 4 = Value.pointer (some ⟨aZ, 0, none⟩) ∧ f' 8 = b1 ∧ f' 9 = b2 ∧ f' 21 = a1 ∧ f' 22 = Vi ((aq.Ops.length : Int)) ∧ f' 23 = Vi ((al : Int))) bo) ?_ ?_
  ·rcases ite_some ah with ⟨aF, ah⟩ | ⟨aF, ah⟩
   ·refine W_cond_t rfl aF (Zd (Za rfl rfl (Zm (v := b) rfl cw (Za rfl rfl (Exec.load_box_agg (ds := [aC, aD, aE]) ((bb).f4) A32 rfl bD rfl (Za rfl rfl (Exec.load_box_agg (ds := [Value.string (ax.Name), Vi (ax.Cost), bq, br, bs, bt, bu]) ((bb).f3) A51 rfl rfl rfl ?_)))))))
    obtain ⟨aj, eW, ah⟩ := Zg ah
    refine Za rfl rfl (Tc rfl rfl rfl (Zi rfl (Zi rfl args_nil)) (simplify_Map_operator_sim eW bb (dc.mono (Zt aJ an)) (dd.mono (Zt aJ an)) (de.mono (Zt aJ an)) (bL.mono an) (bM.mono an) (bN.mono an) (bO.mono an) (bP.mono an)).r ?_)
    rintro _ ha ⟨fq, a2, av, aw, a3, a4, dV, d2, rfl, fi, fj, fk, fl, fm⟩
    refine Za rfl rfl (Exec.buildSlice (Te := 51) (cs := [Value.string (aj.Name), Vi (aj.Cost), a2, av, aw, a3, a4]) d2 rfl (parts_cons (c := [Value.string (aj.Name), Vi (aj.Cost), a2, av, aw, a3, a4]) (cells_of rfl rfl) parts_nil) (fun _ => by kernel_rfl) ?_)
    intro fR hb d3
    obtain ⟨g9, eX, ah⟩ := Zg ah
    refine Za rfl rfl (Exec.append_box (E := encGOp) (ys := [aj]) (d3).f7 S26 Z51 rfl (by decide) rfl rfl rfl rfl ⟨[Value.string (aj.Name), Vi (aj.Cost), a2, av, aw, a3, a4], [], rfl, ⟨[Value.string (aj.Name)], [Vi (aj.Cost), a2, av, aw, a3, a4], rfl, rfl, ⟨[Vi (aj.Cost)], [a2, av, aw, a3, a4], rfl, rfl, ⟨[a2, av, aw], [a3, a4], rfl, ⟨[a2], [av, aw], rfl, ⟨_, rfl, fi⟩, ⟨[av], [aw], rfl, ⟨_, rfl, fj⟩, ⟨_, rfl, fk⟩⟩⟩, ⟨[a3], [a4], rfl, ⟨_, rfl, fl⟩, ⟨_, rfl, fm⟩⟩⟩⟩⟩, rfl⟩ rfl eX ?_)
    intro cZ hc d4
    refine Za rfl rfl (Zm (v := l) rfl cx (Za rfl rfl (Zm (v := Vi ((al : Int))) rfl rfl (Za rfl rfl (Exec.buildSlice (Te := 3) (cs := [Vi ((al : Int))]) d4 rfl (parts_cons (c := [Vi ((al : Int))]) (cells_of rfl rfl) parts_nil) (fun _ => by kernel_rfl) ?_)))))
    intro fS hd d5
    obtain ⟨gA, eY, ah⟩ := Zg ah
    refine Za rfl rfl (Exec.append_box (E := (encInt .i64)) (ys := [(al : Int)]) (d5).f8 S24 Z3 rfl (by decide) rfl rfl rfl rfl ⟨[Vi ((al : Int))], [], rfl, rfl, rfl⟩ rfl eY ?_)
    intro da he d6
    refine Za rfl rfl (Zo (v := cZ) rfl rfl (Za rfl rfl (Zo (v := da) rfl rfl (Zb (Ze ?_)))))
    have ga := Zu ah
    subst bo
    exact ⟨fq, cZ, da, dV, ((((((((d6).f5).drop).f1).f6).f6).f6).f6).f6, bC, bD, cv, rfl, rfl, bE, bF, aW⟩
   refine W_cond_f rfl aF ?_
   replace aF := Zk aF
   refine W_skip (Ze ?_)
   have gb := Zu ah
   subst bo
   exact ⟨cM, b, l, (Zv _), (((((((((bb).f3).drop).f6).f6).f6).f6).f6).f6).f6, bC, bD, cv, cw, cx, bE, bF, aW⟩
  intro gr hf du
  obtain ⟨cn, co⟩ := bo
  replace af := un2_eq af
  obtain ⟨fr, b1, b2, dW, d7, eh, ei, ej, ek, el, em, en, eo⟩ := du
  refine (ib_normal (Ze (Zd (Za rfl rfl (Exec.add rfl eo rfl (Za rfl rfl (Zm (v := Vi (IntKind.i64.wrap ((al : Int) + 1))) rfl rfl (Zb (Ze ?_)))))))))
  have gc := Zu af
  subst fp
  exact ⟨fr, b1, b2, (Zt (Zt aJ an) dW), (((((((d7).f6).f6).f6).f6).f6).f6).f6, eh, ei, ej, ek, el, em, en, (Eq.trans rfl (wrap_up dO (SliceRep.le aX)))⟩
 intro gs hg dl
 obtain ⟨n, ao⟩ := f9
 replace hm := un2_eq hm
 obtain ⟨cO, b, l, cp, ci, gF, gG, ep, er, et, gH, eu, fD⟩ := dl
 refine Zc (Zd (Za rfl rfl (Zq rfl fD eu (Zb (Ze (Zc (W_false (Zx (decide_eq_false (by omega))) (W_exit (at_exit (at_exit (ib_here (Ze (Zc (Zd (Za rfl rfl (Zp F28_4 rfl ep rfl (Za rfl rfl (Zn ((ci).f4) A26 rfl rfl rfl (Za rfl rfl (Zr S26 rfl rfl (aX.mono cp) ?_))))))))))))))))))))
 obtain ⟨dX, eZ, hm⟩ := Zg hm
 refine Za rfl rfl (Exec.make (E := (encInt .i64)) ci S24 Z3 rfl rfl rfl rfl eZ ?_)
 intro m hh b6
 refine Za rfl rfl (Zo (v := m) rfl rfl (Zb (Ze (Zc (Zc (Zd (Za rfl rfl (Zm (v := m) rfl rfl (Za rfl rfl (Exec.len_arr (b6) S24 rfl rfl (Za rfl rfl (Zm (v := Vi (0)) rfl rfl (Zb (Ze ?_))))))))))))))
 obtain ⟨bB, dh, hm⟩ := Zg hm
 refine W_block (W_forS (fun k' s' f' w' => (fun (bB : (List Int)) => ∃ (cP : PHeap) , PHeap.le cO cP ∧ St w0 cP (Res.box aa 90 [i, j, Value.bool (a.changed)] :: Res.arr encBool 4 i a.atoms :: Res.arr encBool 4 j a.fluents :: Res.arr encGOp 51 b n :: Res.arr (encInt .i64) 3 l ao :: Res.arr (encInt .i64) 3 m bB :: H) w' ∧ f' 8 = b ∧ f' 9 = l ∧ f' 12 = m ∧ f' 47 = Vi ((dX.length : Int)) ∧ f' 48 = Vi (k' : Int)) s') dh ?_ ?_ ?_)
 ·have d8 := ((b6).f4).drop
  exact ⟨cO, (Zv _), (((((((d8).f4).drop).f5).f5).f5).f5).f5, er, et, rfl, rfl, rfl⟩
 ·intro bc bB fs gu hi dP dm aI
  obtain ⟨ft, dY, cj, ev, ew, cy, cz, bX⟩ := dm
  refine Zc (Zd (Za rfl rfl (Zq rfl bX cz (Zb (Ze (Zc (W_true (Zx (decide_eq_true (by omega))) (W_skip (Ze (Zc (W_block (Zc (Zd (Za rfl rfl (Zm (v := Vi ((bc : Int))) rfl bX (Za rfl rfl (Zo (v := Vi ((bc : Int))) rfl rfl (Zb (Ze (Zd (Za rfl rfl (Zm (v := m) rfl cy (Za rfl rfl (Zm (v := Vi ((bc : Int))) rfl rfl ?_))))))))))))))))))))))))
  obtain ⟨h2, bJ, aI⟩ := Zg aI
  obtain ⟨g3, fV, ca⟩ := ((cj).f5).arr_at bJ
  refine Za rfl rfl (Exec.index_slice S24 rfl ca rfl (idx_some bJ).1 (idx_some bJ).2.1 ?_)
  obtain ⟨gB, fa, aI⟩ := Zg aI
  refine Za rfl rfl (Exec.store_arr (cj).f5 ca A3 rfl rfl rfl rfl (encInt_val.2 rfl) fa ?_)
  intro hj d9
  refine Zb (ib_normal (Ze (Zd (Za rfl rfl (Exec.add rfl bX rfl (Za rfl rfl (Zm (v := Vi (IntKind.i64.wrap ((bc : Int) + 1))) rfl rfl (Zb (Ze ?_)))))))))
  have gd := Zu aI
  subst fs
  exact ⟨ft, dY, (((((d9).f5).f5).f5).f5).f5, ev, ew, cy, cz, (Eq.trans rfl (wrap_up dP (b6).arr_le))⟩
 intro gv hk dn
 obtain ⟨cQ, dZ, b7, c0, ex, ey, ez, fE⟩ := dn
 refine Zc (Zd (Za rfl rfl (Zq rfl fE ez (Zb (Ze (Zc (W_false (Zx (decide_eq_false (by omega))) (W_exit (at_exit (at_exit (ib_here (Ze (Zc (Zd (Za rfl rfl (Zo (v := Value.slice none 0 0) rfl rfl (Zb (Ze (Zc (Zc (Zd (Za rfl rfl (Zm (v := b) rfl c0 (Za rfl rfl (Exec.len_arr ((b7).f3) S26 rfl rfl (Za rfl rfl (Zm (v := Vi (0)) rfl rfl (Zb (Ze ?_)))))))))))))))))))))))))))))
 obtain ⟨fB, di, hm⟩ := Zg hm
 refine W_block (W_forS (fun k' s' f' w' => (un2 fun (a9 : (List GOp)) (a7 : (List Int)) => ∃ (cR : PHeap) (u : Value), PHeap.le cQ cR ∧ St w0 cR (Res.box aa 90 [i, j, Value.bool (a.changed)] :: Res.arr encBool 4 i a.atoms :: Res.arr encBool 4 j a.fluents :: Res.arr encGOp 51 b n :: Res.arr (encInt .i64) 3 l ao :: Res.arr (encInt .i64) 3 m a7 :: Res.arr encGOp 51 u a9 :: H) w' ∧ f' 8 = b ∧ f' 9 = l ∧ f' 12 = m ∧ f' 14 = u ∧ f' 55 = b ∧ f' 56 = Vi ((n.length : Int)) ∧ f' 57 = Vi (k' : Int)) s') di ?_ ?_ ?_)
 ·have dA := b7.nilArr encGOp 51
  exact ⟨cQ, (Value.slice none 0 0), (Zv _), ((((((dA).f6).f6).f6).f6).f6).f6, c0, ex, ey, rfl, rfl, rfl, rfl⟩
 ·intro p fC fv gw hl dQ dp ag
  obtain ⟨a9, a7⟩ := fC
  replace ag := un2_eq ag
  obtain ⟨bV, u, ea, b8, c1, e0, e1, e2, c2, c3, b4⟩ := dp
  refine Zc (Zd (Za rfl rfl (Zq rfl b4 c3 (Zb (Ze (Zc (W_true (Zx (decide_eq_true (by omega))) (W_skip (Ze (Zc (W_block (Zc (Zd (Za rfl rfl (Zm (v := Vi ((p : Int))) rfl b4 ?_)))))))))))))))
  obtain ⟨d, be, ag⟩ := Zg ag
  obtain ⟨g4, fW, cb⟩ := ((b8).f3).arr_at be
  refine Za rfl rfl (Exec.index_slice S26 rfl (Eq.trans c2 cb) b4 (idx_some be).1 (idx_some be).2.1 (Za rfl rfl (Exec.load_arr (F := encGOp) ((b8).f3) cb A51 rfl rfl rfl be (Sub.refl _) ?_)))
  intro gR fb
  obtain ⟨x, q, t, y, z, rfl, bh, bi, bj, bk, bl⟩ := encGOp_val.1 fb
  refine Za rfl rfl (Exec.alloc (cs := [Value.string (⟨#[]⟩), Vi (0), Value.slice none 0 0, Value.slice none 0 0, Value.slice none 0 0, Value.slice none 0 0, Value.slice none 0 0]) b8 Z51 rfl rfl ?_)
  intro a5 hn dB
  refine Za rfl rfl (Zo (v := Vi ((p : Int))) rfl rfl (Za rfl rfl (Exec.store_box (ds := [Value.string (d.Name), Vi (d.Cost), x, q, t, y, z]) (es := [Value.string (d.Name), Vi (d.Cost), x, q, t, y, z]) dB A51 rfl rfl rfl rfl (Zj rfl (Zj rfl (Zj (bh).one (Zj (bi).one (Zj (bj).one (Zj (bk).one (Zj (bl).one one_nil))))))) (Nat.le_of_ble_eq_true rfl) rfl ?_)))
  intro ho b9
  refine Zb (Ze (Zc (Zd (Za rfl rfl (Zo (v := Value.bool (false)) rfl rfl (Zb (Ze (Zc (Zc (Zd (Za rfl rfl (Zm (v := b) rfl c1 (Za rfl rfl (Exec.len_arr ((b9).f4) S26 rfl rfl (Za rfl rfl (Zm (v := Vi (0)) rfl rfl (Zb (Ze ?_))))))))))))))))))
  obtain ⟨bY, dj, g8, dS, dN⟩ := ctl_some ag
  refine W_mid (M := fun f' w' => ∃ s', (bY = .next s' ∨ bY = .brk s') ∧ (fun (b5 : Bool) => ∃ (cS : PHeap) , PHeap.le bV cS ∧ St w0 cS (Res.box aa 90 [i, j, Value.bool (a.changed)] :: Res.arr encBool 4 i a.atoms :: Res.arr encBool 4 j a.fluents :: Res.arr encGOp 51 b n :: Res.arr (encInt .i64) 3 l ao :: Res.arr (encInt .i64) 3 m a7 :: Res.arr encGOp 51 u a9 :: Res.box a5 51 [Value.string (d.Name), Vi (d.Cost), x, q, t, y, z] :: H) w' ∧ f' 8 = b ∧ f' 9 = l ∧ f' 12 = m ∧ f' 14 = u ∧ f' 15 = Vi ((p : Int)) ∧ f' 16 = Value.pointer (some ⟨a5, 0, none⟩) ∧ f' 17 = Value.bool (b5) ∧ f' 55 = b ∧ f' 56 = Vi ((n.length : Int)) ∧ f' 57 = Vi ((p : Int)) ∧ f' 62 = b ∧ f' 63 = Vi ((n.length : Int))) s') ?_ ?_
  ·refine W_block (W_forC (fun k' s' f' w' => (fun (ba : Bool) => ∃ (cT : PHeap) , PHeap.le bV cT ∧ St w0 cT (Res.box aa 90 [i, j, Value.bool (a.changed)] :: Res.arr encBool 4 i a.atoms :: Res.arr encBool 4 j a.fluents :: Res.arr encGOp 51 b n :: Res.arr (encInt .i64) 3 l ao :: Res.arr (encInt .i64) 3 m a7 :: Res.arr encGOp 51 u a9 :: Res.box a5 51 [Value.string (d.Name), Vi (d.Cost), x, q, t, y, z] :: H) w' ∧ f' 8 = b ∧ f' 9 = l ∧ f' 12 = m ∧ f' 14 = u ∧ f' 15 = Vi ((p : Int)) ∧ f' 16 = Value.pointer (some ⟨a5, 0, none⟩) ∧ f' 17 = Value.bool (ba) ∧ f' 55 = b ∧ f' 56 = Vi ((n.length : Int)) ∧ f' 57 = Vi ((p : Int)) ∧ f' 62 = b ∧ f' 63 = Vi ((n.length : Int)) ∧ f' 64 = Vi (k' : Int)) s') dj ?_ ?_ ?_)
   ·have dC := (b9).f7
    exact ⟨bV, (Zv _), ((((((dC).f7).f7).f7).f7).f7).f7, c1, e0, e1, e2, rfl, rfl, rfl, c2, c3, b4, rfl, rfl, rfl⟩
   ·intro am ba bZ gx hp dR dq ak dT
    obtain ⟨bn, ae, bA, aK, aL, aM, aN, a0, ap, aO, aP, aQ, aR, aA, aB, ay⟩ := dq
    refine Zc (Zd (Za rfl rfl (Zq rfl ay aB (Zb (Ze (Zc (W_true (Zx (decide_eq_true (by omega))) (W_skip (Ze (Zc (W_block (Zc (Zd (Za rfl rfl (Zm (v := Vi ((am : Int))) rfl ay ?_)))))))))))))))
    obtain ⟨ai, bf, ak⟩ := Zg ak
    obtain ⟨g5, fX, cc⟩ := ((bA).f3).arr_at bf
    refine Za rfl rfl (Exec.index_slice S26 rfl (Eq.trans aA cc) ay (idx_some bf).1 (idx_some bf).2.1 (Za rfl rfl (Exec.load_arr (F := encGOp) ((bA).f3) cc A51 rfl rfl rfl bf (Sub.refl _) ?_)))
    intro gS fc
    obtain ⟨bv, bw, bx, bz, b0, rfl, bQ, bR, bS, bT, bU⟩ := encGOp_val.1 fc
    refine Za rfl rfl (Exec.alloc (cs := [Value.string (⟨#[]⟩), Vi (0), Value.slice none 0 0, Value.slice none 0 0, Value.slice none 0 0, Value.slice none 0 0, Value.slice none 0 0]) bA Z51 rfl rfl ?_)
    intro fT hq dD
    refine Za rfl rfl (Zo (v := Vi ((am : Int))) rfl rfl (Za rfl rfl (Exec.store_box (ds := [Value.string (ai.Name), Vi (ai.Cost), bv, bw, bx, bz, b0]) (es := [Value.string (ai.Name), Vi (ai.Cost), bv, bw, bx, bz, b0]) dD A51 rfl rfl rfl rfl (Zj rfl (Zj rfl (Zj (bQ).one (Zj (bR).one (Zj (bS).one (Zj (bT).one (Zj (bU).one one_nil))))))) (Nat.le_of_ble_eq_true rfl) rfl ?_)))
    intro hr ac
    refine Zb (Ze (Zc ?_))
    obtain ⟨az, g, ak⟩ := Zg ak
    refine W_mid (M := fun f' w' => (fun (az : Bool) => ∃ (cU : PHeap) , PHeap.le bn cU ∧ St w0 cU (Res.box aa 90 [i, j, Value.bool (a.changed)] :: Res.arr encBool 4 i a.atoms :: Res.arr encBool 4 j a.fluents :: Res.arr encGOp 51 b n :: Res.arr (encInt .i64) 3 l ao :: Res.arr (encInt .i64) 3 m a7 :: Res.arr encGOp 51 u a9 :: Res.box a5 51 [Value.string (d.Name), Vi (d.Cost), x, q, t, y, z] :: H) w' ∧ f' 8 = b ∧ f' 9 = l ∧ f' 12 = m ∧ f' 14 = u ∧ f' 15 = Vi ((p : Int)) ∧ f' 16 = Value.pointer (some ⟨a5, 0, none⟩) ∧ f' 17 = Value.bool (ba) ∧ f' 55 = b ∧ f' 56 = Vi ((n.length : Int)) ∧ f' 57 = Vi ((p : Int)) ∧ f' 62 = b ∧ f' 63 = Vi ((n.length : Int)) ∧ f' 64 = Vi ((am : Int)) ∧ f' 95 = Value.bool (az)) az) ?_ ?_
    ·refine Zd (Za rfl rfl (Zm (v := Vi ((p : Int))) rfl a0 (Za rfl rfl (Zm (v := Vi ((am : Int))) rfl rfl (Za rfl rfl (Exec.neq rfl rfl rfl (Za rfl rfl (Zm (v := Value.bool (!decide ((p : Int) = (am : Int)))) rfl rfl ?_))))))))
     rcases ite_some g with ⟨o, g⟩ | ⟨o, g⟩
     ·refine WL_run rfl (Zf rfl (Zx o)) rfl (Zp F51_1 rfl rfl rfl (WL_run rfl (Zf rfl (Zx o)) rfl (Zn (ac) A3 rfl rfl rfl (WL_run rfl (Zf rfl (Zx o)) rfl (Zp F51_1 rfl ap rfl (WL_run rfl (Zf rfl (Zx o)) rfl (Zn ((ac).f8) A3 rfl rfl rfl (WL_run rfl (Zf rfl (Zx o)) rfl (Zq rfl rfl rfl (WL_run rfl (Zf rfl (Zx o)) rfl (Zm (v := Value.bool (decide (ai.Cost < d.Cost))) rfl rfl ?_)))))))))))
      rcases ite_some g with ⟨ab, g⟩ | ⟨ab, g⟩
      ·refine WL_passes 10 (by rw [ab]; rfl) ?_
       refine WL_run rfl (Zf rfl (Zx o)) rfl (Zs (v := Value.bool (true)) rfl rfl rfl ?_)
       refine WL_passes 2 (by rw [o]; rfl) ?_
       refine WL_run rfl (Zf rfl rfl) rfl (Exec.load_box_agg (ds := [Value.string (d.Name), Vi (d.Cost), x, q, t, y, z]) ((ac).f8) A51 rfl ap rfl (WL_run rfl (Zf rfl rfl) rfl (Exec.load_box_agg (ds := [Value.string (ai.Name), Vi (ai.Cost), bv, bw, bx, bz, b0]) (ac) A51 rfl rfl rfl ?_)))
       obtain ⟨fJ, fd, g⟩ := Zg g
       refine WL_run rfl (Zf rfl rfl) rfl (Tc rfl rfl rfl (Zi rfl (Zi rfl args_nil)) (simplify_alike_sim fd ac (bh.mono ae) (bi.mono ae) (bj.mono ae) (bk.mono ae) (bl.mono ae) bQ bR bS bT bU).r ?_)
       rintro _ hs ⟨fw, eb, dE, rfl⟩
       refine Za rfl rfl (Zs (v := Value.bool (fJ)) rfl rfl rfl (Zb (Ze ?_)))
       have gf := Zu g
       subst az
       exact ⟨fw, eb, (((((((((dE).drop).f7).f7).f7).f7).f7).f7).f7).f7, aK, aL, aM, aN, a0, ap, aO, aP, aQ, aR, aA, aB, ay, rfl⟩
      replace ab := Zk ab
      refine WL_run rfl (Zf rfl (Zx ab)) rfl (Zp F51_1 rfl rfl rfl (WL_run rfl (Zf rfl (Zx ab)) rfl (Zn (ac) A3 rfl rfl rfl (WL_run rfl (Zf rfl (Zx ab)) rfl (Zp F51_1 rfl ap rfl (WL_run rfl (Zf rfl (Zx ab)) rfl (Zn ((ac).f8) A3 rfl rfl rfl (WL_run rfl (Zf rfl (Zx ab)) rfl (Exec.eql rfl rfl rfl (WL_run rfl (Zf rfl (Zx ab)) rfl (Zm (v := Value.bool (decide (ai.Cost = d.Cost))) rfl rfl ?_)))))))))))
      rcases ite_some g with ⟨ar, g⟩ | ⟨ar, g⟩
      ·refine WL_run rfl (Zf rfl (Zx ar)) rfl (Zm (v := Vi ((am : Int))) rfl rfl (WL_run rfl (Zf rfl (Zx ar)) rfl (Zm (v := Vi ((p : Int))) rfl a0 (WL_run rfl (Zf rfl (Zx ar)) rfl (Zq rfl rfl rfl (WL_run rfl (Zf rfl (Zx ab)) rfl (Zs (v := Value.bool (decide ((am : Int) < (p : Int)))) rfl (Zx ar) rfl (WL_run rfl (Zf rfl (Zx o)) rfl (Exec.pick_f (v := Value.bool (decide ((am : Int) < (p : Int)))) rfl (Zx ab) rfl ?_)))))))))
       refine WL_passes 2 (by rw [o]; rfl) ?_
       rcases ite_some g with ⟨au, g⟩ | ⟨au, g⟩
       ·refine WL_run rfl (Zf rfl (Zx au)) rfl (Exec.load_box_agg (ds := [Value.string (d.Name), Vi (d.Cost), x, q, t, y, z]) ((ac).f8) A51 rfl ap rfl (WL_run rfl (Zf rfl (Zx au)) rfl (Exec.load_box_agg (ds := [Value.string (ai.Name), Vi (ai.Cost), bv, bw, bx, bz, b0]) (ac) A51 rfl rfl rfl ?_)))
        obtain ⟨fK, fe, g⟩ := Zg g
        refine WL_run rfl (Zf rfl (Zx au)) rfl (Tc rfl rfl rfl (Zi rfl (Zi rfl args_nil)) (simplify_alike_sim fe ac (bh.mono ae) (bi.mono ae) (bj.mono ae) (bk.mono ae) (bl.mono ae) bQ bR bS bT bU).r ?_)
        rintro _ ht ⟨fx, ec, dF, rfl⟩
        refine Za rfl rfl (Zs (v := Value.bool (fK)) rfl (Zx au) rfl (Zb (Ze ?_)))
        have gg := Zu g
        subst az
        exact ⟨fx, ec, (((((((((dF).drop).f7).f7).f7).f7).f7).f7).f7).f7, aK, aL, aM, aN, a0, ap, aO, aP, aQ, aR, aA, aB, ay, rfl⟩
       replace au := Zk au
       refine WL_passes 4 (by rw [au]; rfl) ?_
       refine Zb (Ze ?_)
       have gh := Zu g
       subst az
       exact ⟨bn, (Zv _), (((((((((ac).drop).f7).f7).f7).f7).f7).f7).f7).f7, aK, aL, aM, aN, a0, ap, aO, aP, aQ, aR, aA, aB, ay, rfl⟩
      replace ar := Zk ar
      refine WL_passes 3 (by rw [ar]; rfl) ?_
      refine WL_run rfl (Zf rfl (Zx ab)) rfl (Exec.pick_f (v := Value.bool (false)) rfl rfl rfl (WL_run rfl (Zf rfl (Zx o)) rfl (Exec.pick_f (v := Value.bool (false)) rfl (Zx ab) rfl ?_)))
      refine WL_passes 6 (by rw [o]; rfl) ?_
      refine Zb (Ze ?_)
      have gi := Zu g
      subst az
      exact ⟨bn, (Zv _), (((((((((ac).drop).f7).f7).f7).f7).f7).f7).f7).f7, aK, aL, aM, aN, a0, ap, aO, aP, aQ, aR, aA, aB, ay, rfl⟩
     replace o := Zk o
     refine WL_passes 23 (by rw [o]; rfl) ?_
     refine Zb (Ze ?_)
     have gj := Zu g
     subst az
     exact ⟨bn, (Zv _), (((((((((ac).drop).f7).f7).f7).f7).f7).f7).f7).f7, aK, aL, aM, aN, a0, ap, aO, aP, aQ, aR, aA, aB, ay, rfl⟩
    intro gy hu dv
    obtain ⟨cV, cq, ck, c4, c5, c6, c7, c8, c9, e3, cA, cB, cC, cD, cE, e4, cF⟩ := dv
    refine (Ze ?_)
    rcases ite_some ak with ⟨aG, ak⟩ | ⟨aG, ak⟩
    ·refine W_cond_t cF aG (Zc (Zd (Za rfl rfl (Zo (v := Value.bool (true)) rfl rfl (Zb (Ze (W_exit (ib_exit rfl (at_exit (at_exit (ib_here (Ze ?_))))))))))))
     have gk := Zu ak
     subst bZ
     refine ⟨_, .inr (dT (by intro _ h; cases h)), ?_⟩; exact ⟨cV, (Zt ae cq), ((((((((ck).f7).f7).f7).f7).f7).f7).f7).f7, c4, c5, c6, c7, c8, c9, rfl, cA, cB, cC, cD, cE⟩
    refine W_cond_f cF aG ?_
    replace aG := Zk aG
    refine W_skip (ib_normal (Ze (Zd (Za rfl rfl (Exec.add rfl e4 rfl (Za rfl rfl (Zm (v := Vi (IntKind.i64.wrap ((am : Int) + 1))) rfl rfl (Zb (Ze ?_)))))))))
    have gl := Zu ak
    subst bZ
    refine ⟨_, rfl, ?_⟩; exact ⟨cV, (Zt ae cq), ((((((((ck).f7).f7).f7).f7).f7).f7).f7).f7, c4, c5, c6, c7, c8, c9, e3, cA, cB, cC, cD, cE, (Eq.trans rfl (wrap_up dR ((b9).f4).arr_le))⟩
   intro ba gz hv dr dU
   obtain ⟨fy, ed, dG, e5, e6, e7, e8, e9, eA, eB, eC, eD, eE, eF, cG, fF⟩ := dr
   refine Zc (Zd (Za rfl rfl (Zq rfl fF cG (Zb (Ze (Zc (W_false (Zx (decide_eq_false (by omega))) (W_exit (at_exit (at_exit (ib_here (Ze ?_))))))))))))
   refine ⟨_, .inl dU, ?_⟩; exact ⟨fy, ed, ((((((((dG).f7).f7).f7).f7).f7).f7).f7).f7, e5, e6, e7, e8, e9, eA, eB, eC, eD, eE, eF, cG⟩
  rintro g0 hw ⟨b5, cm, dw⟩
  have ag := cm.elim (dS _) (dN _)
  clear cm
  obtain ⟨bW, a8, a6, cH, bG, bH, bI, eG, eH, eI, cI, cJ, cK, gI, gJ⟩ := dw
  refine (Ze (Zc (Zd (Za rfl rfl (Zm (v := Value.bool (b5)) rfl eI (Za rfl rfl (Exec.not rfl rfl (Zb (Ze ?_)))))))))
  obtain ⟨bp, ad, ag⟩ := Zg ag
  refine W_mid (M := fun f' w' => (un2 fun (cr : (List Int)) (ct : (List GOp)) => ∃ (cW : PHeap) (b3 : Value), PHeap.le bW cW ∧ St w0 cW (Res.box aa 90 [i, j, Value.bool (a.changed)] :: Res.arr encBool 4 i a.atoms :: Res.arr encBool 4 j a.fluents :: Res.arr encGOp 51 b n :: Res.arr (encInt .i64) 3 l ao :: Res.arr (encInt .i64) 3 m cr :: Res.arr encGOp 51 b3 ct :: H) w' ∧ f' 8 = b ∧ f' 9 = l ∧ f' 12 = m ∧ f' 14 = b3 ∧ f' 55 = b ∧ f' 56 = Vi ((n.length : Int)) ∧ f' 57 = Vi ((p : Int))) bp) ?_ ?_
  ·rcases ite_some ad with ⟨aH, ad⟩ | ⟨aH, ad⟩
   ·refine W_cond_t rfl aH (Zc (Zd (Za rfl rfl (Zm (v := m) rfl bH (Za rfl rfl (Zm (v := l) rfl bG (Za rfl rfl (Zm (v := Vi ((p : Int))) rfl eG ?_))))))))
    obtain ⟨h3, bg, ad⟩ := Zg ad
    obtain ⟨g6, fY, cd⟩ := ((a6).f4).arr_at bg
    refine Za rfl rfl (Exec.index_slice S24 rfl cd rfl (idx_some bg).1 (idx_some bg).2.1 (Za rfl rfl (Exec.load_arr (F := (encInt .i64)) ((a6).f4) cd A3 rfl rfl rfl bg (Sub.refl _) ?_)))
    intro gT ff
    obtain rfl := encInt_val.1 ff
    refine Za rfl rfl (Zm (v := u) rfl bI (Za rfl rfl (Exec.len_arr ((a6).f6) S26 rfl rfl ?_)))
    obtain ⟨h4, bK, ad⟩ := Zg ad
    obtain ⟨g7, fZ, ce⟩ := ((a6).f5).arr_at bK
    refine Za rfl rfl (Exec.index_slice S24 rfl ce rfl (idx_some bK).1 (idx_some bK).2.1 ?_)
    obtain ⟨gC, fg, ad⟩ := Zg ad
    refine Za rfl rfl (Exec.store_arr (a6).f5 ce A3 rfl rfl rfl rfl (encInt_val.2 rfl) fg ?_)
    intro hx cl
    refine Zb (Ze (Zd (Za rfl rfl (Zm (v := u) rfl bI (Za rfl rfl (Exec.load_box_agg (ds := [Value.string (d.Name), Vi (d.Cost), x, q, t, y, z]) ((cl).f7) A51 rfl eH rfl (Za rfl rfl (Exec.buildSlice (Te := 51) (cs := [Value.string (d.Name), Vi (d.Cost), x, q, t, y, z]) cl rfl (parts_cons (c := [Value.string (d.Name), Vi (d.Cost), x, q, t, y, z]) (cells_of rfl rfl) parts_nil) (fun _ => by kernel_rfl) ?_))))))))
    intro fU hy dH
    obtain ⟨gD, fh, ad⟩ := Zg ad
    refine Za rfl rfl (Exec.append_box (E := encGOp) (ys := [d]) (dH).f7 S26 Z51 rfl (by decide) rfl rfl rfl rfl ⟨[Value.string (d.Name), Vi (d.Cost), x, q, t, y, z], [], rfl, ⟨[Value.string (d.Name)], [Vi (d.Cost), x, q, t, y, z], rfl, rfl, ⟨[Vi (d.Cost)], [x, q, t, y, z], rfl, rfl, ⟨[x, q, t], [y, z], rfl, ⟨[x], [q, t], rfl, ⟨_, rfl, (bh.mono a8)⟩, ⟨[q], [t], rfl, ⟨_, rfl, (bi.mono a8)⟩, ⟨_, rfl, (bj.mono a8)⟩⟩⟩, ⟨[y], [z], rfl, ⟨_, rfl, (bk.mono a8)⟩, ⟨_, rfl, (bl.mono a8)⟩⟩⟩⟩⟩, rfl⟩ rfl fh ?_)
    intro db hz dI
    refine Za rfl rfl (Zo (v := db) rfl rfl (Zb (Ze ?_)))
    have gm := Zu ad
    subst bp
    exact ⟨bW, db, (Zv _), ((((((((dI).f7).drop).f1).f6).f6).f6).f6).f6, cH, bG, bH, rfl, cI, cJ, cK⟩
   refine W_cond_f rfl aH ?_
   replace aH := Zk aH
   refine W_skip (Ze ?_)
   have gn := Zu ad
   subst bp
   exact ⟨bW, u, (Zv _), (((((((((a6).f7).drop).f6).f6).f6).f6).f6).f6).f6, cH, bG, bH, bI, cI, cJ, cK⟩
  intro g1 h0 dx
  obtain ⟨cr, ct⟩ := bp
  replace ag := un2_eq ag
  obtain ⟨fz, b3, ee, dJ, eJ, eK, eL, eM, eN, eO, eP⟩ := dx
  refine (ib_normal (Ze (Zd (Za rfl rfl (Exec.add rfl eP rfl (Za rfl rfl (Zm (v := Vi (IntKind.i64.wrap ((p : Int) + 1))) rfl rfl (Zb (Ze ?_)))))))))
  have go := Zu ag
  subst fv
  exact ⟨fz, b3, (Zt (Zt ea a8) ee), (((((((dJ).f6).f6).f6).f6).f6).f6).f6, eJ, eK, eL, eM, eN, eO, (Eq.trans rfl (wrap_up dQ ((b7).f3).arr_le))⟩
 intro g2 h1 dt
 obtain ⟨a9, a7⟩ := fB
 replace hm := un2_eq hm
 obtain ⟨gO, u, ef, dK, gK, gL, eQ, eR, gM, eS, fG⟩ := dt
 refine Zc (Zd (Za rfl rfl (Zq rfl fG eS (Zb (Ze (Zc (W_false (Zx (decide_eq_false (by omega))) (W_exit (at_exit (at_exit (ib_here (Ze (Zc (Zd (Za rfl rfl (Zm (v := u) rfl eR (Za rfl rfl (Zm (v := m) rfl eQ (Za rfl rfl (Zo (v := u) rfl rfl (Za rfl rfl (Zo (v := m) rfl rfl (Zb (Ze (W_ret ?_)))))))))))))))))))))))))
 have gp := Zu hm
 subst r
 refine ⟨_, ret2 rfl, ?_⟩
 obtain ⟨gP, eg, dL, fn⟩ := (dK).f6.freezeArr
 obtain ⟨f0, cu, dM, fo⟩ := (dL).f5.freezeArr
 exact ⟨f0, u, m, (Zt (Zt (Zt (Zt cp dZ) ef) eg) cu), (((((((dM).f3).drop).f3).drop).f2).f2).f2, (tup2 rfl rfl), (fn.mono cu), fo⟩
theorem F32_2 : tyField Try.prog 32 2 = some 2 := by kernel_rfl
theorem simplify_Simplify_sim {w0 w : World} {s : PHeap} {H : List Res} {fu : Nat} {ai : Ground} {aa : Value} {ab : Value} {ac : Value} {af : Value} {ah : Value} {r : (Option Int) × Ground × simplify_Map} (hm : simplify_Simplify_p fu ai = some r) (hS : St w0 s (H) w) (a8 : SliceRep encAtom s aa ai.Atoms) (a9 : SliceRep encGFluent s ab ai.Fluents) (aA : SliceRep (encInt .i64) s ac ai.Init) (aB : SliceRep encCond s af ai.Goal) (b3 : SliceRep encGOp s ah ai.Ops) :
  Calls Try.prog 12 #[Value.agg #[aa, ab, ac, af, ah]] w fun e w' => ∃ v, e = .returned v ∧ ((un3 fun (gC : (Option Int)) (be : Ground) (cg : simplify_Map) => ∃ (am : PHeap) (dl : Value) (dm : Value) (dn : Value) (dp : Value) (dq : Value) (dr : Value) (dt : Value) (du : Value), PHeap.le s am ∧ St w0 am (H) w' ∧ v = Value.tuple #[Value.agg #[dl, dm, dn, dp, dq], Value.agg #[dr, dt, du], errV 41 (gC)] ∧ SliceRep encAtom am dl be.Atoms ∧ SliceRep encGFluent am dm be.Fluents ∧ SliceRep (encInt .i64) am dn be.Init ∧ SliceRep encCond am dp be.Goal ∧ SliceRep encGOp am dq be.Ops ∧ SliceRep (encInt .i64) am dr cg.Atoms ∧ SliceRep (encInt .i64) am dt cg.Fluents ∧ SliceRep (encInt .i64) am du cg.Ops) r) := by
 unfold simplify_Simplify_p at hm
 refine calls_of_W Try.func12 rfl rfl (Zc (Zd (Za rfl rfl (Exec.box (cs := [aa, ab, ac, af, ah]) hS rfl rfl rfl ?_))))
 intro x hT dJ
 refine Za rfl rfl (Exec.alloc (cs := [Value.slice none 0 0, Value.slice none 0 0, Value.slice none 0 0, Value.slice none 0 0, Value.slice none 0 0]) dJ Z28 rfl rfl ?_)
 intro y hU dK
 refine Za rfl rfl (Exec.alloc (cs := [Value.slice none 0 0, Value.slice none 0 0, Value.slice none 0 0]) dK Z32 rfl rfl ?_)
 intro z hV cl
 refine Za rfl rfl (Zo (v := errV 41 (none)) rfl rfl (Zb (Ze (Zc (Zc (Zd (Za rfl rfl (Exec.load_box_agg (ds := [aa, ab, ac, af, ah]) ((cl).f2) A28 rfl rfl rfl ?_))))))))
 obtain ⟨iU, fD, hm⟩ := Zg hm
 refine Za rfl rfl (Tc rfl rfl rfl (Zi rfl args_nil) (ground_Valid_sim fD cl a8 a9 aA aB b3).r ?_)
 rintro _ hW ⟨gk, g, b4, rfl⟩
 refine Za rfl rfl (Exec.not rfl rfl (Zb (Ze ?_)))
 rcases ite_some hm with ⟨aI, hm⟩ | ⟨aI, hm⟩
 ·refine W_cond_t rfl aI (Zc (Zd (Za rfl rfl (Exec.build rfl parts_nil (v := Value.agg #[Value.slice none 0 0, Value.slice none 0 0, Value.slice none 0 0, Value.slice none 0 0, Value.slice none 0 0]) (fun _ => by kernel_rfl) (Za rfl rfl (Exec.build rfl parts_nil (v := Value.agg #[Value.slice none 0 0, Value.slice none 0 0, Value.slice none 0 0]) (fun _ => by kernel_rfl) (Za rfl rfl (Exec.makeInterface C41 rfl rfl (Za rfl rfl (Exec.store_box (ds := [Value.slice none 0 0, Value.slice none 0 0, Value.slice none 0 0, Value.slice none 0 0, Value.slice none 0 0]) (es := [Value.slice none 0 0, Value.slice none 0 0, Value.slice none 0 0, Value.slice none 0 0, Value.slice none 0 0]) (b4).f1 A28 rfl rfl rfl rfl (Zj rfl (Zj rfl (Zj rfl (Zj rfl (Zj rfl one_nil))))) (Nat.le_of_ble_eq_true rfl) rfl ?_))))))))))
  intro hX dL
  refine Za rfl rfl (Exec.store_box (ds := [Value.slice none 0 0, Value.slice none 0 0, Value.slice none 0 0]) (es := [Value.slice none 0 0, Value.slice none 0 0, Value.slice none 0 0]) (dL).f1 A32 rfl rfl rfl rfl (Zj rfl (Zj rfl (Zj rfl one_nil))) (Nat.le_of_ble_eq_true rfl) rfl ?_)
  intro hY b5
  refine Za rfl rfl (Zo (v := errV 41 (some 2)) rfl rfl (Zb (Ze (W_ret (at_ret ?_)))))
  have gX := Zu hm
  subst r
  refine ⟨_, retG3 rfl ⟨_, _, rfl, cellRes ((b5).f1) A28⟩ ⟨_, _, rfl, cellRes (b5) A32⟩ rfl, ?_⟩
  exact ⟨gk, (Value.slice none 0 0), (Value.slice none 0 0), (Value.slice none 0 0), (Value.slice none 0 0), (Value.slice none 0 0), (Value.slice none 0 0), (Value.slice none 0 0), (Value.slice none 0 0), g, (((b5).drop).drop).drop, (tup3 rfl rfl rfl), (SliceRep.nil _ _), (SliceRep.nil _ _), (SliceRep.nil _ _), (SliceRep.nil _ _), (SliceRep.nil _ _), (SliceRep.nil _ _), (SliceRep.nil _ _), (SliceRep.nil _ _)⟩
 refine W_cond_f rfl aI ?_
 replace aI := Zk aI
 refine W_skip (Ze (Zc (Zd (Za rfl rfl (Exec.load_box_agg (ds := [aa, ab, ac, af, ah]) ((b4).f2) A28 rfl rfl rfl ?_)))))
 obtain ⟨d, fE, hm⟩ := Zg hm
 refine Za rfl rfl (Tc rfl rfl rfl (Zi rfl args_nil) (simplify_relevant_sim fE b4 (a8.mono g) (a9.mono g) (aA.mono g) (aB.mono g) (b3.mono g)).r ?_)
 rintro _ hZ ⟨gl, b, ad, ae, l, bf, rfl⟩
 refine Za rfl rfl (Zo (v := Value.pointer (some ⟨b, 0, none⟩)) rfl rfl (Zb (Ze (Zc ?_))))
 obtain ⟨gD, cQ, hm⟩ := Zg hm
 obtain ⟨gE, bS, hm⟩ := Zg hm
 refine W_mid (M := fun f' w' => ∃ (bu : PHeap) (n : Value) (o : Value) (t : Nat), PHeap.le gl bu ∧ St w0 bu (Res.box x 28 [aa, ab, ac, af, ah] :: Res.box y 28 [Value.slice none 0 0, Value.slice none 0 0, Value.slice none 0 0, Value.slice none 0 0, Value.slice none 0 0] :: Res.box z 32 [Value.slice none 0 0, Value.slice none 0 0, Value.slice none 0 0] :: Res.box b 90 [ad, ae, Value.bool (d.changed)] :: Res.box t 32 [n, o, Value.slice none 0 0] :: Res.arr encBool 4 ad d.atoms :: Res.arr encBool 4 ae d.fluents :: H) w' ∧ f' 1 = Value.pointer (some ⟨x, 0, none⟩) ∧ f' 2 = Value.pointer (some ⟨y, 0, none⟩) ∧ f' 3 = Value.pointer (some ⟨z, 0, none⟩) ∧ f' 5 = Value.pointer (some ⟨b, 0, none⟩) ∧ f' 6 = Value.pointer (some ⟨t, 0, none⟩) ∧ SliceRep (encInt .i64) bu n gD ∧ SliceRep (encInt .i64) bu o gE) ?_ ?_
 ·refine W_dl (n0 := 12) (qs 0 4 (qs 5 4 (.alt (.e 4 [5, 6, 7, 8] (.alt (.e 9 [] (.q 10 (.e 11 [10] .done))) (.e 11 [5, 6, 7, 8] (.e 9 [] (.q 10 .done))))) (.e 11 [0, 1, 2, 3, 5, 6, 7, 8] (.e 4 [5, 6, 7, 8] (.e 9 [] (.q 10 .done))))))) hmix (by kernel_rfl) (by kernel_rfl) (DL_q rfl rfl (Zm (v := Value.pointer (some ⟨b, 0, none⟩)) rfl rfl ⟨rfl, ?_⟩))
  refine DL_q rfl rfl (Exec.nilCheck_ptr rfl rfl ⟨rfl, ?_⟩)
  refine DL_q rfl rfl (Zp F90_0 rfl rfl rfl ⟨rfl, ?_⟩)
  refine DL_q rfl rfl (Zn (bf.drew) A60 rfl rfl rfl ⟨rfl, ?_⟩)
  refine DL_q rfl rfl (Zm (v := Value.pointer (some ⟨b, 0, none⟩)) rfl rfl ⟨rfl, ?_⟩)
  refine DL_q rfl rfl (Exec.nilCheck_ptr rfl rfl ⟨rfl, ?_⟩)
  refine DL_q rfl rfl (Zp F90_1 rfl rfl rfl ⟨rfl, ?_⟩)
  refine DL_q rfl rfl (Zn (bf.drew) A60 rfl rfl rfl ⟨rfl, ?_⟩)
  refine DL_alt ?_ ?_
  ·have dM := (bf.drew).f1
   refine DL_e rfl rfl (Tc rfl rfl rfl (Zi rfl args_nil) (simplify_numbers_o_sim cQ dM ).r ?_)
   rintro al ia ⟨hD, _, c2, b6, rfl, a6⟩
   refine ⟨(ag_cons (ag_r rfl rfl (Zm (v := Value.pointer (some ⟨b, 0, none⟩)) rfl rfl ⟨rfl, rfl⟩)) (ag_cons (ag_r rfl rfl (Exec.nilCheck_ptr rfl rfl ⟨rfl, rfl⟩)) (ag_cons (ag_r rfl rfl (Zp F90_1 rfl rfl rfl ⟨rfl, rfl⟩)) (ag_cons (ag_r rfl rfl (Zn ((b6).f1) A60 rfl rfl rfl ⟨rfl, rfl⟩)) ag_nil)))), ?_⟩
   refine DL_alt ?_ ?_
   ·have dN := (b6).f2
    refine DL_e rfl rfl (Tc rfl rfl rfl (Zi rfl args_nil) (simplify_numbers_o_sim bS dN ).r ?_)
    rintro a7 ib ⟨gm, _, aP, dO, rfl, br⟩
    refine ⟨ag_nil, ?_⟩
    refine DL_q rfl rfl (Exec.build rfl (parts_cons (c := [al]) (cells_of rfl (cells_one ((a6.mono aP)).one)) (parts_cons (c := [a7]) (cells_of rfl (cells_one (br).one)) parts_nil)) (v := Value.agg #[al, a7, Value.slice none 0 0]) (fun _ => by kernel_rfl) ⟨rfl, ?_⟩)
    refine DL_e rfl rfl (Exec.alloc (cs := [Value.slice none 0 0, Value.slice none 0 0, Value.slice none 0 0]) dO Z32 rfl rfl ?_)
    intro d0 ic dP
    refine ⟨(ag_cons (ag_r rfl rfl (Exec.build rfl (parts_cons (c := [al]) (cells_of rfl (cells_one ((a6.mono aP)).one)) (parts_cons (c := [a7]) (cells_of rfl (cells_one (br).one)) parts_nil)) (v := Value.agg #[al, a7, Value.slice none 0 0]) (fun _ => by kernel_rfl) ⟨rfl, rfl⟩)) ag_nil), ?_⟩
    refine DL_done (Za rfl rfl (Exec.store_box (ds := [al, a7, Value.slice none 0 0]) (es := [al, a7, Value.slice none 0 0]) dP A32 rfl rfl rfl rfl (Zj ((a6.mono aP)).one (Zj (br).one (Zj rfl one_nil))) (Nat.le_of_ble_eq_true rfl) rfl ?_))
    intro ie dQ
    refine Zb (Ze ?_)
    exact ⟨gm, al, a7, d0, (Zt c2 aP), (((((((dQ).f1).f2).f2).f3).f4).f5).f6, rfl, rfl, rfl, rfl, rfl, (a6.mono aP), br⟩
   refine DL_e rfl rfl (Exec.alloc (cs := [Value.slice none 0 0, Value.slice none 0 0, Value.slice none 0 0]) b6 Z32 rfl rfl ?_)
   intro d1 ig cm
   refine ⟨(ag_cons (ag_r rfl rfl (Zm (v := Value.pointer (some ⟨b, 0, none⟩)) rfl rfl ⟨rfl, rfl⟩)) (ag_cons (ag_r rfl rfl (Exec.nilCheck_ptr rfl rfl ⟨rfl, rfl⟩)) (ag_cons (ag_r rfl rfl (Zp F90_1 rfl rfl rfl ⟨rfl, rfl⟩)) (ag_cons (ag_r rfl rfl (Zn ((cm).f2) A60 rfl rfl rfl ⟨rfl, rfl⟩)) ag_nil)))), ?_⟩
   refine DL_e rfl rfl (Tc rfl rfl rfl (Zi rfl args_nil) (simplify_numbers_o_sim bS (cm).f3 ).r ?_)
   rintro aX ih ⟨gn, _, bj, dR, rfl, bT⟩
   refine ⟨ag_nil, ?_⟩
   refine DL_q rfl rfl (Exec.build rfl (parts_cons (c := [al]) (cells_of rfl (cells_one ((a6.mono bj)).one)) (parts_cons (c := [aX]) (cells_of rfl (cells_one (bT).one)) parts_nil)) (v := Value.agg #[al, aX, Value.slice none 0 0]) (fun _ => by kernel_rfl) ⟨rfl, ?_⟩)
   refine DL_done (Za rfl rfl (Exec.store_box (ds := [al, aX, Value.slice none 0 0]) (es := [al, aX, Value.slice none 0 0]) (dR).f1 A32 rfl rfl rfl rfl (Zj ((a6.mono bj)).one (Zj (bT).one (Zj rfl one_nil))) (Nat.le_of_ble_eq_true rfl) rfl ?_))
   intro ii dS
   refine Zb (Ze ?_)
   exact ⟨gn, al, aX, d1, (Zt c2 bj), (((((((dS).f1).f2).f2).f3).f4).f5).f6, rfl, rfl, rfl, rfl, rfl, (a6.mono bj), bT⟩
  refine DL_e rfl rfl (Exec.alloc (cs := [Value.slice none 0 0, Value.slice none 0 0, Value.slice none 0 0]) bf.drew Z32 rfl rfl ?_)
  intro d2 ij b7
  refine ⟨(ag_cons (ag_r rfl rfl (Zm (v := Value.pointer (some ⟨b, 0, none⟩)) rfl rfl ⟨rfl, rfl⟩)) (ag_cons (ag_r rfl rfl (Exec.nilCheck_ptr rfl rfl ⟨rfl, rfl⟩)) (ag_cons (ag_r rfl rfl (Zp F90_0 rfl rfl rfl ⟨rfl, rfl⟩)) (ag_cons (ag_r rfl rfl (Zn ((b7).f1) A60 rfl rfl rfl ⟨rfl, rfl⟩)) (ag_cons (ag_r rfl rfl (Zm (v := Value.pointer (some ⟨b, 0, none⟩)) rfl rfl ⟨rfl, rfl⟩)) (ag_cons (ag_r rfl rfl (Exec.nilCheck_ptr rfl rfl ⟨rfl, rfl⟩)) (ag_cons (ag_r rfl rfl (Zp F90_1 rfl rfl rfl ⟨rfl, rfl⟩)) (ag_cons (ag_r rfl rfl (Zn ((b7).f1) A60 rfl rfl rfl ⟨rfl, rfl⟩)) ag_nil)))))))), ?_⟩
  refine DL_e rfl rfl (Tc rfl rfl rfl (Zi rfl args_nil) (simplify_numbers_o_sim cQ (b7).f2 ).r ?_)
  rintro aY ik ⟨hE, _, e0, cn, rfl, bU⟩
  refine ⟨(ag_cons (ag_r rfl rfl (Zm (v := Value.pointer (some ⟨b, 0, none⟩)) rfl rfl ⟨rfl, rfl⟩)) (ag_cons (ag_r rfl rfl (Exec.nilCheck_ptr rfl rfl ⟨rfl, rfl⟩)) (ag_cons (ag_r rfl rfl (Zp F90_1 rfl rfl rfl ⟨rfl, rfl⟩)) (ag_cons (ag_r rfl rfl (Zn ((cn).f2) A60 rfl rfl rfl ⟨rfl, rfl⟩)) ag_nil)))), ?_⟩
  refine DL_e rfl rfl (Tc rfl rfl rfl (Zi rfl args_nil) (simplify_numbers_o_sim bS (cn).f3 ).r ?_)
  rintro aZ il ⟨go, _, bk, dT, rfl, bV⟩
  refine ⟨ag_nil, ?_⟩
  refine DL_q rfl rfl (Exec.build rfl (parts_cons (c := [aY]) (cells_of rfl (cells_one ((bU.mono bk)).one)) (parts_cons (c := [aZ]) (cells_of rfl (cells_one (bV).one)) parts_nil)) (v := Value.agg #[aY, aZ, Value.slice none 0 0]) (fun _ => by kernel_rfl) ⟨rfl, ?_⟩)
  refine DL_done (Za rfl rfl (Exec.store_box (ds := [aY, aZ, Value.slice none 0 0]) (es := [aY, aZ, Value.slice none 0 0]) (dT).f2 A32 rfl rfl rfl rfl (Zj ((bU.mono bk)).one (Zj (bV).one (Zj rfl one_nil))) (Nat.le_of_ble_eq_true rfl) rfl ?_))
  intro im dU
  refine Zb (Ze ?_)
  exact ⟨go, aY, aZ, d2, (Zt e0 bk), (((((((dU).f1).f2).f2).f3).f4).f5).f6, rfl, rfl, rfl, rfl, rfl, (bU.mono bk), bV⟩
 intro hk io dF
 obtain ⟨cW, n, o, t, m, dV, c5, e9, eA, eB, eC, aM, bi⟩ := dF
 refine (Ze (Zc (Zd (Za rfl rfl (Exec.alloc (cs := [Value.slice none 0 0, Value.slice none 0 0, Value.slice none 0 0, Value.slice none 0 0, Value.slice none 0 0]) dV Z28 rfl rfl ?_)))))
 intro ag ip co
 refine Zb (Ze (Zc (Zc (Zd (Za rfl rfl (Zp F28_0 rfl c5 rfl (Za rfl rfl (Zn ((co).f1) A22 rfl rfl rfl (Za rfl rfl (Zr S22 rfl rfl (a8.mono (Zt (Zt g l) m)) (Za rfl rfl (Zm (v := Vi (0)) rfl rfl (Zb (Ze ?_))))))))))))))
 obtain ⟨a0, d3, hm⟩ := Zg hm
 refine W_block (W_forS (fun k' s' f' w' => (fun (a0 : (List Atom)) => ∃ (cX : PHeap) (i : Value), PHeap.le cW cX ∧ St w0 cX (Res.box x 28 [aa, ab, ac, af, ah] :: Res.box y 28 [Value.slice none 0 0, Value.slice none 0 0, Value.slice none 0 0, Value.slice none 0 0, Value.slice none 0 0] :: Res.box z 32 [Value.slice none 0 0, Value.slice none 0 0, Value.slice none 0 0] :: Res.box b 90 [ad, ae, Value.bool (d.changed)] :: Res.box t 32 [n, o, Value.slice none 0 0] :: Res.box ag 28 [i, Value.slice none 0 0, Value.slice none 0 0, Value.slice none 0 0, Value.slice none 0 0] :: Res.arr encBool 4 ad d.atoms :: Res.arr encBool 4 ae d.fluents :: Res.arr encAtom 56 i a0 :: H) w' ∧ f' 1 = Value.pointer (some ⟨x, 0, none⟩) ∧ f' 2 = Value.pointer (some ⟨y, 0, none⟩) ∧ f' 3 = Value.pointer (some ⟨z, 0, none⟩) ∧ f' 5 = Value.pointer (some ⟨b, 0, none⟩) ∧ f' 6 = Value.pointer (some ⟨t, 0, none⟩) ∧ f' 7 = Value.pointer (some ⟨ag, 0, none⟩) ∧ f' 36 = aa ∧ f' 37 = Vi ((ai.Atoms.length : Int)) ∧ f' 38 = Vi (k' : Int)) s') d3 ?_ ?_ ?_)
 ·have dW := co.nilArr encAtom 56
  exact ⟨cW, (Value.slice none 0 0), (Zv _), ((((((((dW).f8).f8).f3).f8).f8).f8).f8).f8, c5, e9, eA, eB, eC, rfl, rfl, rfl, rfl⟩
 ·intro aN a0 gp hl iq ev d7 a1
  obtain ⟨cY, i, c3, cp, c6, c7, c8, bI, c9, aE, bJ, bK, bc⟩ := d7
  refine Zc (Zd (Za rfl rfl (Zq rfl bc bK (Zb (Ze (Zc (W_true (Zx (decide_eq_true (by omega))) (W_skip (Ze (Zc (W_block (Zc (Zd (Za rfl rfl (Zm (v := Vi ((aN : Int))) rfl bc ?_)))))))))))))))
  obtain ⟨av, fF, a1⟩ := Zg a1
  refine Za rfl rfl (Exec.index_rep S22 rfl bJ bc (a8.mono (Zt (Zt (Zt g l) m) c3)) fF ?_)
  intro gI h4 dv
  refine Za rfl rfl (Zw (E := encAtom) cp A56 rfl rfl rfl dv ?_)
  intro hN fG
  obtain ⟨dj, rfl, cR⟩ := encAtom_val.1 fG
  refine Za rfl rfl (Exec.alloc (cs := [Value.string (⟨#[]⟩), Value.slice none 0 0]) cp Z56 rfl rfl ?_)
  intro gJ ir dX
  refine Za rfl rfl (Zo (v := Vi ((aN : Int))) rfl rfl (Za rfl rfl (Exec.store_box (ds := [Value.string (av.Name), dj]) (es := [Value.string (av.Name), dj]) dX A56 rfl rfl rfl rfl (Zj rfl (Zj (cR).one one_nil)) (Nat.le_of_ble_eq_true rfl) rfl ?_)))
  intro it aw
  refine Zb (Ze (Zc (Zd (Za rfl rfl (Zm (v := Value.pointer (some ⟨b, 0, none⟩)) rfl bI (Za rfl rfl (Exec.nilCheck_ptr rfl rfl (Za rfl rfl (Zp F90_0 rfl rfl rfl (Za rfl rfl (Zn ((aw).f4) A60 rfl rfl rfl (Za rfl rfl (Zm (v := Vi ((aN : Int))) rfl rfl ?_)))))))))))))
  obtain ⟨g5, bo, a1⟩ := Zg a1
  obtain ⟨hx, gU, ci⟩ := ((aw).f7).arr_at bo
  refine Za rfl rfl (Exec.index_slice S60 rfl ci rfl (idx_some bo).1 (idx_some bo).2.1 (Za rfl rfl (Exec.load_arr (F := encBool) ((aw).f7) ci A4 rfl rfl rfl bo (Sub.refl _) ?_)))
  intro g2 fH
  obtain rfl : g2 = Value.bool (g5) := encBool_val.1 fH
  refine Zb (Ze ?_)
  obtain ⟨aQ, ao, a1⟩ := Zg a1
  refine W_mid (M := fun f' w' => (fun (aQ : (List Atom)) => ∃ (cZ : PHeap) (bv : Value), PHeap.le cY cZ ∧ St w0 cZ (Res.box x 28 [aa, ab, ac, af, ah] :: Res.box y 28 [Value.slice none 0 0, Value.slice none 0 0, Value.slice none 0 0, Value.slice none 0 0, Value.slice none 0 0] :: Res.box z 32 [Value.slice none 0 0, Value.slice none 0 0, Value.slice none 0 0] :: Res.box b 90 [ad, ae, Value.bool (d.changed)] :: Res.box t 32 [n, o, Value.slice none 0 0] :: Res.box ag 28 [bv, Value.slice none 0 0, Value.slice none 0 0, Value.slice none 0 0, Value.slice none 0 0] :: Res.arr encBool 4 ad d.atoms :: Res.arr encBool 4 ae d.fluents :: Res.arr encAtom 56 bv aQ :: H) w' ∧ f' 1 = Value.pointer (some ⟨x, 0, none⟩) ∧ f' 2 = Value.pointer (some ⟨y, 0, none⟩) ∧ f' 3 = Value.pointer (some ⟨z, 0, none⟩) ∧ f' 5 = Value.pointer (some ⟨b, 0, none⟩) ∧ f' 6 = Value.pointer (some ⟨t, 0, none⟩) ∧ f' 7 = Value.pointer (some ⟨ag, 0, none⟩) ∧ f' 36 = aa ∧ f' 37 = Vi ((ai.Atoms.length : Int)) ∧ f' 38 = Vi ((aN : Int))) aQ) ?_ ?_
  ·rcases ite_some ao with ⟨aJ, ao⟩ | ⟨aJ, ao⟩
   ·refine W_cond_t rfl aJ (W_dl (n0 := 10) (qs 0 6 (.e 6 [0, 1, 2, 3] (.q 7 (.e 8 [0, 1] (.e 9 [] .done))))) hmix (by kernel_rfl) (by kernel_rfl) (DL_q rfl rfl (Zp F28_0 rfl aE rfl ⟨rfl, ?_⟩)))
    refine DL_q rfl rfl (Zn ((aw.drew).f6) A22 rfl rfl rfl ⟨rfl, ?_⟩)
    refine DL_q rfl rfl (Zp F56_0 rfl rfl rfl ⟨rfl, ?_⟩)
    refine DL_q rfl rfl (Zn (aw.drew) A9 rfl rfl rfl ⟨rfl, ?_⟩)
    refine DL_q rfl rfl (Zp F56_1 rfl rfl rfl ⟨rfl, ?_⟩)
    refine DL_q rfl rfl (Zn (aw.drew) A54 rfl rfl rfl ⟨rfl, ?_⟩)
    obtain ⟨gF, fI, ao⟩ := Zg ao
    refine DL_e rfl rfl (Tc rfl rfl rfl (Zi rfl args_nil) (slices_Clone___string_string__sim fI aw.drew cR).r ?_)
    rintro aF iu ⟨hF, _, e1, bg, rfl⟩
    refine ⟨(ag_cons (ag_r rfl rfl (Zp F28_0 rfl aE rfl ⟨rfl, rfl⟩)) (ag_cons (ag_r rfl rfl (Zn ((bg).f7) A22 rfl rfl rfl ⟨rfl, rfl⟩)) (ag_cons (ag_r rfl rfl (Zp F56_0 rfl rfl rfl ⟨rfl, rfl⟩)) (ag_cons (ag_r rfl rfl (Zn ((bg).f1) A9 rfl rfl rfl ⟨rfl, rfl⟩)) ag_nil)))), ?_⟩
    refine DL_q rfl rfl (Exec.build rfl (parts_cons (c := [Value.string (av.Name)]) (cells_of rfl rfl) (parts_cons (c := [aF]) (cells_of rfl (cells_one (bg).arr_one)) parts_nil)) (v := Value.agg #[Value.string (av.Name), aF]) (fun _ => by kernel_rfl) ⟨rfl, ?_⟩)
    obtain ⟨gq, e2, dY, ga⟩ := bg.freezeArr
    refine DL_e rfl rfl (Exec.buildSlice (Te := 56) (cs := [Value.string (av.Name), aF]) dY rfl (parts_cons (c := [Value.string (av.Name), aF]) (cells_of rfl rfl) parts_nil) (fun _ => by kernel_rfl) ?_)
    intro gK iv cq
    refine ⟨(ag_cons (ag_r rfl rfl (Zp F28_0 rfl aE rfl ⟨rfl, rfl⟩)) (ag_cons (ag_r rfl rfl (Zn ((cq).f7) A22 rfl rfl rfl ⟨rfl, rfl⟩)) ag_nil)), ?_⟩
    obtain ⟨h0, fJ, ao⟩ := Zg ao
    refine DL_e rfl rfl (Exec.append_box (E := encAtom) (ys := [(⟨av.Name, gF⟩ : Atom)]) (cq).f10 S22 Z56 rfl (by decide) rfl rfl rfl rfl ⟨[Value.string (av.Name), aF], [], rfl, ⟨[Value.string (av.Name)], [aF], rfl, rfl, ⟨_, rfl, ga⟩⟩, rfl⟩ rfl fJ ?_)
    intro ca iw b8
    refine ⟨ag_nil, ?_⟩
    refine DL_done (Za rfl rfl (Zp F28_0 rfl aE rfl (Za rfl rfl (Exec.store_box (ds := [ca]) (es := [ca, Value.slice none 0 0, Value.slice none 0 0, Value.slice none 0 0, Value.slice none 0 0]) (b8).f7 A22 rfl rfl rfl (cells_one (((b8).f7).f1).arr_one) (Zj (((b8).f7).f1).arr_one one_nil) (Nat.le_of_ble_eq_true rfl) rfl ?_))))
    intro ix dZ
    refine Zb (Ze ?_)
    have gY := Zu ao
    subst aQ
    exact ⟨gq, ca, (Zt e1 e2), (((((((((((dZ).f2).drop).f1).f8).f8).f3).f8).f8).f8).f8).f8, c6, c7, c8, bI, c9, aE, bJ, bK, bc⟩
   refine W_cond_f rfl aJ ?_
   replace aJ := Zk aJ
   refine W_skip (Ze ?_)
   have gZ := Zu ao
   subst aQ
   exact ⟨cY, i, (Zv _), ((((((((((aw).drop).f8).f8).f8).f8).f8).f8).f8).f8).f8, c6, c7, c8, bI, c9, aE, bJ, bK, bc⟩
  intro hn iy dG
  obtain ⟨gr, bv, e3, ea, eD, eE, eF, eG, eH, eI, eJ, eK, eL⟩ := dG
  refine (ib_normal (Ze (Zd (Za rfl rfl (Exec.add rfl eL rfl (Za rfl rfl (Zm (v := Vi (IntKind.i64.wrap ((aN : Int) + 1))) rfl rfl (Zb (Ze ?_)))))))))
  have ha := Zu a1
  subst gp
  exact ⟨gr, bv, (Zt c3 e3), (((((((((ea).f8).f8).f8).f8).f8).f8).f8).f8).f8, eD, eE, eF, eG, eH, eI, eJ, eK, (Eq.trans rfl (wrap_up ev (SliceRep.le (a8.mono (Zt (Zt g l) m)))))⟩
 intro ho iz d8
 obtain ⟨da, i, h, cr, cA, eM, eN, eO, eP, eQ, h9, eR, g6⟩ := d8
 refine Zc (Zd (Za rfl rfl (Zq rfl g6 eR (Zb (Ze (Zc (W_false (Zx (decide_eq_false (by omega))) (W_exit (at_exit (at_exit (ib_here (Ze (Zc (Zc (Zd (Za rfl rfl (Zp F28_1 rfl cA rfl (Za rfl rfl (Zn (cr) A23 rfl rfl rfl (Za rfl rfl (Zr S23 rfl rfl (a9.mono (Zt (Zt (Zt g l) m) h)) (Za rfl rfl (Zm (v := Vi (0)) rfl rfl (Zb (Ze ?_)))))))))))))))))))))))))
 obtain ⟨aG, d4, hm⟩ := Zg hm
 refine W_block (W_forS (fun k' s' f' w' => (fun (aG : (List GFluent)) => ∃ (db : PHeap) (p : Value), PHeap.le da db ∧ St w0 db (Res.box x 28 [aa, ab, ac, af, ah] :: Res.box y 28 [Value.slice none 0 0, Value.slice none 0 0, Value.slice none 0 0, Value.slice none 0 0, Value.slice none 0 0] :: Res.box z 32 [Value.slice none 0 0, Value.slice none 0 0, Value.slice none 0 0] :: Res.box b 90 [ad, ae, Value.bool (d.changed)] :: Res.box t 32 [n, o, Value.slice none 0 0] :: Res.box ag 28 [i, p, Value.slice none 0 0, Value.slice none 0 0, Value.slice none 0 0] :: Res.arr encBool 4 ad d.atoms :: Res.arr encBool 4 ae d.fluents :: Res.arr encAtom 56 i a0 :: Res.arr encGFluent 93 p aG :: H) w' ∧ f' 1 = Value.pointer (some ⟨x, 0, none⟩) ∧ f' 2 = Value.pointer (some ⟨y, 0, none⟩) ∧ f' 3 = Value.pointer (some ⟨z, 0, none⟩) ∧ f' 5 = Value.pointer (some ⟨b, 0, none⟩) ∧ f' 6 = Value.pointer (some ⟨t, 0, none⟩) ∧ f' 7 = Value.pointer (some ⟨ag, 0, none⟩) ∧ f' 63 = ab ∧ f' 64 = Vi ((ai.Fluents.length : Int)) ∧ f' 65 = Vi (k' : Int)) s') d4 ?_ ?_ ?_)
 ·have eb := cr.nilArr encGFluent 93
  exact ⟨da, (Value.slice none 0 0), (Zv _), (((((((((eb).f9).f9).f9).f9).f9).f9).f9).f9).f9, cA, eM, eN, eO, eP, eQ, rfl, rfl, rfl⟩
 ·intro aO aG gs hp i0 ew d9 a2
  obtain ⟨dc, p, c4, ct, cB, cC, cD, bL, cE, bm, bM, bN, bd⟩ := d9
  refine Zc (Zd (Za rfl rfl (Zq rfl bd bN (Zb (Ze (Zc (W_true (Zx (decide_eq_true (by omega))) (W_skip (Ze (Zc (W_block (Zc (Zd (Za rfl rfl (Zm (v := Vi ((aO : Int))) rfl bd ?_)))))))))))))))
  obtain ⟨a, fK, a2⟩ := Zg a2
  refine Za rfl rfl (Exec.index_rep S23 rfl bM bd (a9.mono (Zt (Zt (Zt (Zt g l) m) h) c4)) fK ?_)
  intro gL h5 dw
  refine Za rfl rfl (Zw (E := encGFluent) ct A93 rfl rfl rfl dw ?_)
  intro hO fL
  obtain ⟨dk, rfl, cS⟩ := encGFluent_val.1 fL
  refine Za rfl rfl (Exec.alloc (cs := [Value.string (⟨#[]⟩), Value.slice none 0 0, Vi (0), Vi (0), Vi (0)]) ct Z93 rfl rfl ?_)
  intro gM i1 ec
  refine Za rfl rfl (Zo (v := Vi ((aO : Int))) rfl rfl (Za rfl rfl (Exec.store_box (ds := [Value.string (a.Fluent.Name), dk, Vi (a.Lo), Vi (a.Hi), Vi (a.Init)]) (es := [Value.string (a.Fluent.Name), dk, Vi (a.Lo), Vi (a.Hi), Vi (a.Init)]) ec A93 rfl rfl rfl rfl (Zj rfl (Zj (cS).one (Zj rfl (Zj rfl (Zj rfl one_nil))))) (Nat.le_of_ble_eq_true rfl) rfl ?_)))
  intro i2 aC
  refine Zb (Ze (Zc (Zd (Za rfl rfl (Zm (v := Value.pointer (some ⟨b, 0, none⟩)) rfl bL (Za rfl rfl (Exec.nilCheck_ptr rfl rfl (Za rfl rfl (Zp F90_1 rfl rfl rfl (Za rfl rfl (Zn ((aC).f4) A60 rfl rfl rfl (Za rfl rfl (Zm (v := Vi ((aO : Int))) rfl rfl ?_)))))))))))))
  obtain ⟨g7, bp, a2⟩ := Zg a2
  obtain ⟨hy, gV, cj⟩ := ((aC).f8).arr_at bp
  refine Za rfl rfl (Exec.index_slice S60 rfl cj rfl (idx_some bp).1 (idx_some bp).2.1 (Za rfl rfl (Exec.load_arr (F := encBool) ((aC).f8) cj A4 rfl rfl rfl bp (Sub.refl _) ?_)))
  intro g3 fM
  obtain rfl : g3 = Value.bool (g7) := encBool_val.1 fM
  refine Zb (Ze ?_)
  obtain ⟨aR, ap, a2⟩ := Zg a2
  refine W_mid (M := fun f' w' => (fun (aR : (List GFluent)) => ∃ (dd : PHeap) (bw : Value), PHeap.le dc dd ∧ St w0 dd (Res.box x 28 [aa, ab, ac, af, ah] :: Res.box y 28 [Value.slice none 0 0, Value.slice none 0 0, Value.slice none 0 0, Value.slice none 0 0, Value.slice none 0 0] :: Res.box z 32 [Value.slice none 0 0, Value.slice none 0 0, Value.slice none 0 0] :: Res.box b 90 [ad, ae, Value.bool (d.changed)] :: Res.box t 32 [n, o, Value.slice none 0 0] :: Res.box ag 28 [i, bw, Value.slice none 0 0, Value.slice none 0 0, Value.slice none 0 0] :: Res.arr encBool 4 ad d.atoms :: Res.arr encBool 4 ae d.fluents :: Res.arr encAtom 56 i a0 :: Res.arr encGFluent 93 bw aR :: H) w' ∧ f' 1 = Value.pointer (some ⟨x, 0, none⟩) ∧ f' 2 = Value.pointer (some ⟨y, 0, none⟩) ∧ f' 3 = Value.pointer (some ⟨z, 0, none⟩) ∧ f' 5 = Value.pointer (some ⟨b, 0, none⟩) ∧ f' 6 = Value.pointer (some ⟨t, 0, none⟩) ∧ f' 7 = Value.pointer (some ⟨ag, 0, none⟩) ∧ f' 63 = ab ∧ f' 64 = Vi ((ai.Fluents.length : Int)) ∧ f' 65 = Vi ((aO : Int))) aR) ?_ ?_
  ·rcases ite_some ap with ⟨aK, ap⟩ | ⟨aK, ap⟩
   ·refine W_cond_t rfl aK (Zc (Zd (Za rfl rfl (Zp F93_0 rfl rfl rfl (Za rfl rfl (Zp F56_1 rfl rfl rfl (Za rfl rfl (Zn (aC) A54 rfl rfl rfl ?_))))))))
    obtain ⟨gG, fN, ap⟩ := Zg ap
    refine Za rfl rfl (Tc rfl rfl rfl (Zi rfl args_nil) (slices_Clone___string_string__sim fN aC cS).r ?_)
    rintro ay i3 ⟨hG, _, e4, b9, rfl⟩
    refine Za rfl rfl (Zp F93_0 rfl rfl rfl (Za rfl rfl (Zp F56_1 rfl rfl rfl (Za rfl rfl (Exec.store_box (ds := [ay]) (es := [Value.string (a.Fluent.Name), ay, Vi (a.Lo), Vi (a.Hi), Vi (a.Init)]) (b9).f1 A54 rfl rfl rfl (cells_one (((b9).f1).f1).arr_one) (Zj (((b9).f1).f1).arr_one one_nil) (Nat.le_of_ble_eq_true rfl) rfl ?_)))))
    intro i4 bA
    refine Zb (Ze (Zd (Za rfl rfl (Zp F28_1 rfl bm rfl (Za rfl rfl (Zn ((bA).f7) A23 rfl rfl rfl (Za rfl rfl (Exec.load_box_agg (ds := [Value.string (a.Fluent.Name), ay, Vi (a.Lo), Vi (a.Hi), Vi (a.Init)]) (bA) A93 rfl rfl rfl ?_))))))))
    obtain ⟨gu, e5, ed, gb⟩ := (bA).f1.freezeArr
    refine Za rfl rfl (Exec.buildSlice (Te := 93) (cs := [Value.string (a.Fluent.Name), ay, Vi (a.Lo), Vi (a.Hi), Vi (a.Init)]) ed rfl (parts_cons (c := [Value.string (a.Fluent.Name), ay, Vi (a.Lo), Vi (a.Hi), Vi (a.Init)]) (cells_of rfl rfl) parts_nil) (fun _ => by kernel_rfl) ?_)
    intro gN i5 ee
    obtain ⟨h1, fO, ap⟩ := Zg ap
    refine Za rfl rfl (Exec.append_box (E := encGFluent) (ys := [(⟨(⟨a.Fluent.Name, gG⟩ : Atom), a.Lo, a.Hi, a.Init⟩ : GFluent)]) (ee).f11 S23 Z93 rfl (by decide) rfl rfl rfl rfl ⟨[Value.string (a.Fluent.Name), ay, Vi (a.Lo), Vi (a.Hi), Vi (a.Init)], [], rfl, ⟨[Value.string (a.Fluent.Name), ay], [Vi (a.Lo), Vi (a.Hi), Vi (a.Init)], rfl, ⟨[Value.string (a.Fluent.Name)], [ay], rfl, rfl, ⟨_, rfl, gb⟩⟩, ⟨[Vi (a.Lo)], [Vi (a.Hi), Vi (a.Init)], rfl, rfl, ⟨[Vi (a.Hi)], [Vi (a.Init)], rfl, rfl, rfl⟩⟩⟩, rfl⟩ rfl fO ?_)
    intro cb i6 bB
    refine Za rfl rfl (Zp F28_1 rfl bm rfl (Za rfl rfl (Exec.store_box (ds := [cb]) (es := [i, cb, Value.slice none 0 0, Value.slice none 0 0, Value.slice none 0 0]) (bB).f7 A23 rfl rfl rfl (cells_one (((bB).f7).f1).arr_one) (Zj (((bB).f7).f1).arr_one one_nil) (Nat.le_of_ble_eq_true rfl) rfl ?_)))
    intro i7 ef
    refine Zb (Ze ?_)
    have hb := Zu ap
    subst aR
    exact ⟨gu, cb, (Zt e4 e5), ((((((((((((ef).f2).drop).f1).f9).f9).f9).f4).f9).f9).f9).f9).f9, cB, cC, cD, bL, cE, bm, bM, bN, bd⟩
   refine W_cond_f rfl aK ?_
   replace aK := Zk aK
   refine W_skip (Ze ?_)
   have hc := Zu ap
   subst aR
   exact ⟨dc, p, (Zv _), (((((((((((aC).drop).f9).f9).f9).f9).f9).f9).f9).f9).f9).f9, cB, cC, cD, bL, cE, bm, bM, bN, bd⟩
  intro hq i8 dH
  obtain ⟨gv, bw, e6, eg, eS, eT, eU, eV, eW, eX, eY, eZ, fa⟩ := dH
  refine (ib_normal (Ze (Zd (Za rfl rfl (Exec.add rfl fa rfl (Za rfl rfl (Zm (v := Vi (IntKind.i64.wrap ((aO : Int) + 1))) rfl rfl (Zb (Ze ?_)))))))))
  have hd := Zu a2
  subst gs
  exact ⟨gv, bw, (Zt c4 e6), ((((((((((eg).f9).f9).f9).f9).f9).f9).f9).f9).f9).f9, eS, eT, eU, eV, eW, eX, eY, eZ, (Eq.trans rfl (wrap_up ew (SliceRep.le (a9.mono (Zt (Zt (Zt g l) m) h)))))⟩
 intro hr i9 dA
 obtain ⟨de, p, j, cu, cF, fb, fc, fd, fe, ff, hA, fg, g8⟩ := dA
 refine Zc (Zd (Za rfl rfl (Zq rfl g8 fg (Zb (Ze (Zc (W_false (Zx (decide_eq_false (by omega))) (W_exit (at_exit (at_exit (ib_here (Ze (Zc (Zc (Zd (Za rfl rfl (Zp F28_2 rfl cF rfl (Za rfl rfl (Zn (cu) A24 rfl rfl rfl (Za rfl rfl (Zr S24 rfl rfl (aA.mono (Zt (Zt (Zt (Zt g l) m) h) j)) (Za rfl rfl (Zm (v := Vi (0)) rfl rfl (Zb (Ze ?_)))))))))))))))))))))))))
 obtain ⟨b2, d5, hm⟩ := Zg hm
 refine W_block (W_forS (fun k' s' f' w' => (fun (b2 : (List Int)) => ∃ (df : PHeap) (aj : Value), PHeap.le de df ∧ St w0 df (Res.box x 28 [aa, ab, ac, af, ah] :: Res.box y 28 [Value.slice none 0 0, Value.slice none 0 0, Value.slice none 0 0, Value.slice none 0 0, Value.slice none 0 0] :: Res.box z 32 [Value.slice none 0 0, Value.slice none 0 0, Value.slice none 0 0] :: Res.box b 90 [ad, ae, Value.bool (d.changed)] :: Res.box t 32 [n, o, Value.slice none 0 0] :: Res.box ag 28 [i, p, aj, Value.slice none 0 0, Value.slice none 0 0] :: Res.arr encBool 4 ad d.atoms :: Res.arr encBool 4 ae d.fluents :: Res.arr encAtom 56 i a0 :: Res.arr encGFluent 93 p aG :: Res.arr (encInt .i64) 3 aj b2 :: H) w' ∧ f' 1 = Value.pointer (some ⟨x, 0, none⟩) ∧ f' 2 = Value.pointer (some ⟨y, 0, none⟩) ∧ f' 3 = Value.pointer (some ⟨z, 0, none⟩) ∧ f' 5 = Value.pointer (some ⟨b, 0, none⟩) ∧ f' 6 = Value.pointer (some ⟨t, 0, none⟩) ∧ f' 7 = Value.pointer (some ⟨ag, 0, none⟩) ∧ f' 91 = ac ∧ f' 92 = Vi ((ai.Init.length : Int)) ∧ f' 93 = Vi (k' : Int)) s') d5 ?_ ?_ ?_)
 ·have eh := cu.nilArr (encInt .i64) 3
  exact ⟨de, (Value.slice none 0 0), (Zv _), ((((((((((eh).f10).f10).f10).f10).f10).f10).f10).f10).f10).f10, cF, fb, fc, fd, fe, ff, rfl, rfl, rfl⟩
 ·intro c1 b2 gw hs iA ex dB a3
  obtain ⟨bW, aj, bH, an, cG, cH, cI, bO, bP, aV, bQ, bR, b0⟩ := dB
  refine Zc (Zd (Za rfl rfl (Zq rfl b0 bR (Zb (Ze (Zc (W_true (Zx (decide_eq_true (by omega))) (W_skip (Ze (Zc (W_block (Zc (Zd ?_)))))))))))))
  obtain ⟨ce, fP, a3⟩ := Zg a3
  refine Za rfl rfl (Exec.index_rep S24 rfl bQ b0 (aA.mono (Zt (Zt (Zt (Zt (Zt g l) m) h) j) bH)) fP ?_)
  intro gO h6 dx
  refine Za rfl rfl (Zw (E := (encInt .i64)) an A3 rfl rfl rfl dx ?_)
  intro hP fQ
  obtain rfl := encInt_val.1 fQ
  refine Za rfl rfl (Zo (v := Vi (ce)) rfl rfl (Zb (Ze (Zc (Zd (Za rfl rfl (Zm (v := Value.pointer (some ⟨b, 0, none⟩)) rfl bO (Za rfl rfl (Exec.nilCheck_ptr rfl rfl (Za rfl rfl (Zp F90_0 rfl rfl rfl (Za rfl rfl (Zn ((an).f3) A60 rfl rfl rfl (Za rfl rfl (Zm (v := Vi (ce)) rfl rfl ?_)))))))))))))))
  obtain ⟨g9, bq, a3⟩ := Zg a3
  obtain ⟨hz, gW, ck⟩ := ((an).f6).arr_at bq
  refine Za rfl rfl (Exec.index_slice S60 rfl ck rfl (idx_some bq).1 (idx_some bq).2.1 (Za rfl rfl (Exec.load_arr (F := encBool) ((an).f6) ck A4 rfl rfl rfl bq (Sub.refl _) ?_)))
  intro g4 fR
  obtain rfl : g4 = Value.bool (g9) := encBool_val.1 fR
  refine Zb (Ze ?_)
  obtain ⟨aS, aq, a3⟩ := Zg a3
  refine W_mid (M := fun f' w' => (fun (aS : (List Int)) => ∃ (dg : PHeap) (bx : Value), PHeap.le bW dg ∧ St w0 dg (Res.box x 28 [aa, ab, ac, af, ah] :: Res.box y 28 [Value.slice none 0 0, Value.slice none 0 0, Value.slice none 0 0, Value.slice none 0 0, Value.slice none 0 0] :: Res.box z 32 [Value.slice none 0 0, Value.slice none 0 0, Value.slice none 0 0] :: Res.box b 90 [ad, ae, Value.bool (d.changed)] :: Res.box t 32 [n, o, Value.slice none 0 0] :: Res.box ag 28 [i, p, bx, Value.slice none 0 0, Value.slice none 0 0] :: Res.arr encBool 4 ad d.atoms :: Res.arr encBool 4 ae d.fluents :: Res.arr encAtom 56 i a0 :: Res.arr encGFluent 93 p aG :: Res.arr (encInt .i64) 3 bx aS :: H) w' ∧ f' 1 = Value.pointer (some ⟨x, 0, none⟩) ∧ f' 2 = Value.pointer (some ⟨y, 0, none⟩) ∧ f' 3 = Value.pointer (some ⟨z, 0, none⟩) ∧ f' 5 = Value.pointer (some ⟨b, 0, none⟩) ∧ f' 6 = Value.pointer (some ⟨t, 0, none⟩) ∧ f' 7 = Value.pointer (some ⟨ag, 0, none⟩) ∧ f' 91 = ac ∧ f' 92 = Vi ((ai.Init.length : Int)) ∧ f' 93 = Vi ((c1 : Int))) aS) ?_ ?_
  ·rcases ite_some aq with ⟨aL, aq⟩ | ⟨aL, aq⟩
   ·refine W_cond_t rfl aL (W_dl (n0 := 9) (qs 0 7 (.e 7 [0, 1] (.e 8 [] .done))) hmix (by kernel_rfl) (by kernel_rfl) (DL_q rfl rfl (Zp F28_2 rfl aV rfl ⟨rfl, ?_⟩)))
    refine DL_q rfl rfl (Zn ((an.drew).f5) A24 rfl rfl rfl ⟨rfl, ?_⟩)
    refine DL_q rfl rfl (Zp F32_0 rfl bP rfl ⟨rfl, ?_⟩)
    refine DL_q rfl rfl (Zn ((an.drew).f4) A24 rfl rfl rfl ⟨rfl, ?_⟩)
    refine DL_q rfl rfl (Zm (v := Vi (ce)) rfl rfl ⟨rfl, ?_⟩)
    obtain ⟨b1, fS, aq⟩ := Zg aq
    refine DL_q rfl rfl (Exec.index_repE S24 rfl rfl rfl (aM.mono (Zt (Zt h j) bH)) fS ?_)
    intro gP h7 dy he
    refine ⟨rfl, ?_⟩
    refine DL_q rfl rfl (Zw (E := (encInt .i64)) an.drew A3 rfl rfl rfl dy ?_)
    intro hQ fT
    obtain rfl := encInt_val.1 fT
    refine ⟨rfl, ?_⟩
    refine DL_e rfl rfl (Exec.buildSlice (Te := 3) (cs := [Vi (b1)]) an.drew rfl (parts_cons (c := [Vi (b1)]) (cells_of rfl rfl) parts_nil) (fun _ => by kernel_rfl) ?_)
    intro gQ iB cv
    refine ⟨(ag_cons (ag_r rfl rfl (Zp F28_2 rfl aV rfl ⟨rfl, rfl⟩)) (ag_cons (ag_r rfl rfl (Zn ((cv).f6) A24 rfl rfl rfl ⟨rfl, rfl⟩)) ag_nil)), ?_⟩
    obtain ⟨h2, fU, aq⟩ := Zg aq
    refine DL_e rfl rfl (Exec.append_box (E := (encInt .i64)) (ys := [b1]) (cv).f11 S24 Z3 rfl (by decide) rfl rfl rfl rfl ⟨[Vi (b1)], [], rfl, rfl, rfl⟩ rfl fU ?_)
    intro cc iC bC
    refine ⟨ag_nil, ?_⟩
    refine DL_done (Za rfl rfl (Zp F28_2 rfl aV rfl (Za rfl rfl (Exec.store_box (ds := [cc]) (es := [i, p, cc, Value.slice none 0 0, Value.slice none 0 0]) (bC).f6 A24 rfl rfl rfl (cells_one (((bC).f6).f1).arr_one) (Zj (((bC).f6).f1).arr_one one_nil) (Nat.le_of_ble_eq_true rfl) rfl ?_))))
    intro iD ei
    refine Zb (Ze ?_)
    have hf := Zu aq
    subst aS
    exact ⟨bW, cc, (Zv _), (((((((((((ei).f1).f10).f10).f10).f10).f5).f10).f10).f10).f10).f10, cG, cH, cI, bO, bP, aV, bQ, bR, b0⟩
   refine W_cond_f rfl aL ?_
   replace aL := Zk aL
   refine W_skip (Ze ?_)
   have hg := Zu aq
   subst aS
   exact ⟨bW, aj, (Zv _), (((((((((((an).f10).f10).f10).f10).f10).f10).f10).f10).f10).f10).f10, cG, cH, cI, bO, bP, aV, bQ, bR, b0⟩
  intro ht iE dI
  obtain ⟨gx, bx, e7, ej, fh, fi, fj, fk, fl, fm, fn, fo, fp⟩ := dI
  refine (ib_normal (Ze (Zd (Za rfl rfl (Exec.add rfl fp rfl (Za rfl rfl (Zm (v := Vi (IntKind.i64.wrap ((c1 : Int) + 1))) rfl rfl (Zb (Ze ?_)))))))))
  have hh := Zu a3
  subst gw
  exact ⟨gx, bx, (Zt bH e7), (((((((((((ej).f10).f10).f10).f10).f10).f10).f10).f10).f10).f10).f10, fh, fi, fj, fk, fl, fm, fn, fo, (Eq.trans rfl (wrap_up ex (SliceRep.le (aA.mono (Zt (Zt (Zt (Zt g l) m) h) j)))))⟩
 intro hu iF dC
 obtain ⟨dh, aj, u, cw, cJ, fq, fr, fs, ft, fv, hB, fw, gA⟩ := dC
 refine Zc (Zd (Za rfl rfl (Zq rfl gA fw (Zb (Ze (Zc (W_false (Zx (decide_eq_false (by omega))) (W_exit (at_exit (at_exit (ib_here (Ze (Zc (Zc (Zd (Za rfl rfl (Zp F28_3 rfl cJ rfl (Za rfl rfl (Zn (cw) A25 rfl rfl rfl (Za rfl rfl (Zr S25 rfl rfl (aB.mono (Zt (Zt (Zt (Zt (Zt g l) m) h) j) u)) (Za rfl rfl (Zm (v := Vi (0)) rfl rfl (Zb (Ze ?_)))))))))))))))))))))))))
 obtain ⟨ch, d6, hm⟩ := Zg hm
 refine W_block (W_forS (fun k' s' f' w' => (fun (ch : (List Cond)) => ∃ (di : PHeap) (ar : Value), PHeap.le dh di ∧ St w0 di (Res.box x 28 [aa, ab, ac, af, ah] :: Res.box y 28 [Value.slice none 0 0, Value.slice none 0 0, Value.slice none 0 0, Value.slice none 0 0, Value.slice none 0 0] :: Res.box z 32 [Value.slice none 0 0, Value.slice none 0 0, Value.slice none 0 0] :: Res.box b 90 [ad, ae, Value.bool (d.changed)] :: Res.box t 32 [n, o, Value.slice none 0 0] :: Res.box ag 28 [i, p, aj, ar, Value.slice none 0 0] :: Res.arr encBool 4 ad d.atoms :: Res.arr encBool 4 ae d.fluents :: Res.arr encAtom 56 i a0 :: Res.arr encGFluent 93 p aG :: Res.arr (encInt .i64) 3 aj b2 :: Res.arr encCond 47 ar ch :: H) w' ∧ f' 1 = Value.pointer (some ⟨x, 0, none⟩) ∧ f' 2 = Value.pointer (some ⟨y, 0, none⟩) ∧ f' 3 = Value.pointer (some ⟨z, 0, none⟩) ∧ f' 5 = Value.pointer (some ⟨b, 0, none⟩) ∧ f' 6 = Value.pointer (some ⟨t, 0, none⟩) ∧ f' 7 = Value.pointer (some ⟨ag, 0, none⟩) ∧ f' 116 = af ∧ f' 117 = Vi ((ai.Goal.length : Int)) ∧ f' 118 = Vi (k' : Int)) s') d6 ?_ ?_ ?_)
 ·have ek := cw.nilArr encCond 47
  exact ⟨dh, (Value.slice none 0 0), (Zv _), (((((((((((ek).f11).f11).f11).f11).f11).f11).f11).f11).f11).f11).f11, cJ, fq, fr, fs, ft, fv, rfl, rfl, rfl⟩
 ·intro ez ch gy hv iG ey dD a4
  obtain ⟨hH, ar, bl, cx, fx, fy, fz, f0, cK, aW, cL, cM, cf⟩ := dD
  refine Zc (Zd (Za rfl rfl (Zq rfl cf cM (Zb (Ze (Zc (W_true (Zx (decide_eq_true (by omega))) (W_skip (Ze (Zc (W_block (Zc (Zd ?_)))))))))))))
  obtain ⟨iT, fV, a4⟩ := Zg a4
  refine Za rfl rfl (Exec.index_rep S25 rfl cL cf (aB.mono (Zt (Zt (Zt (Zt (Zt (Zt g l) m) h) j) u) bl)) fV ?_)
  intro gR h8 dz
  refine Za rfl rfl (Zw (E := encCond) cx A47 rfl rfl rfl dz ?_)
  intro hR fW
  obtain ⟨bX, bY, bZ, rfl, cT, cU, cV⟩ := encCond_val.1 fW
  refine Za rfl rfl (Exec.alloc (cs := [Value.slice none 0 0, Value.slice none 0 0, Value.slice none 0 0]) cx Z47 rfl rfl ?_)
  intro gS iH el
  refine Za rfl rfl (Exec.store_box (ds := [bX, bY, bZ]) (es := [bX, bY, bZ]) el A47 rfl rfl rfl rfl (Zj (cT).one (Zj (cU).one (Zj (cV).one one_nil))) (Nat.le_of_ble_eq_true rfl) rfl ?_)
  intro iI bh
  refine Zb (Ze (W_dl (n0 := 7) (qs 0 4 (.e 4 [0, 1] (.e 5 [0, 1] (.e 6 [] .done)))) hmix (by kernel_rfl) (by kernel_rfl) (DL_q rfl rfl (Zp F28_3 rfl aW rfl ⟨rfl, ?_⟩))))
  refine DL_q rfl rfl (Zn ((bh.drew).f6) A25 rfl rfl rfl ⟨rfl, ?_⟩)
  refine DL_q rfl rfl (Exec.load_box_agg (ds := [n, o, Value.slice none 0 0]) ((bh.drew).f5) A32 rfl cK rfl ⟨rfl, ?_⟩)
  refine DL_q rfl rfl (Exec.load_box_agg (ds := [bX, bY, bZ]) (bh.drew) A47 rfl rfl rfl ⟨rfl, ?_⟩)
  obtain ⟨gH, fX, a4⟩ := Zg a4
  refine DL_e rfl rfl (Tc rfl rfl rfl (Zi rfl (Zi rfl args_nil)) (simplify_Map_cond_sim fX bh.drew (aM.mono (Zt (Zt (Zt h j) u) bl)) (bi.mono (Zt (Zt (Zt h j) u) bl)) (SliceRep.nil _ _) cT cU cV).r ?_)
  rintro _ iJ ⟨gz, bz, ba, bb, e8, cy, rfl, gc, gd, gf⟩
  refine ⟨(ag_cons (ag_r rfl rfl (Zp F28_3 rfl aW rfl ⟨rfl, rfl⟩)) (ag_cons (ag_r rfl rfl (Zn ((cy).f6) A25 rfl rfl rfl ⟨rfl, rfl⟩)) ag_nil)), ?_⟩
  refine DL_e rfl rfl (Exec.buildSlice (Te := 47) (cs := [bz, ba, bb]) cy rfl (parts_cons (c := [bz, ba, bb]) (cells_of rfl rfl) parts_nil) (fun _ => by kernel_rfl) ?_)
  intro gT iK cz
  refine ⟨(ag_cons (ag_r rfl rfl (Zp F28_3 rfl aW rfl ⟨rfl, rfl⟩)) (ag_cons (ag_r rfl rfl (Zn ((cz).f7) A25 rfl rfl rfl ⟨rfl, rfl⟩)) ag_nil)), ?_⟩
  obtain ⟨h3, fY, a4⟩ := Zg a4
  refine DL_e rfl rfl (Exec.append_box (E := encCond) (ys := [gH]) (cz).f13 S25 Z47 rfl (by decide) rfl rfl rfl rfl ⟨[bz, ba, bb], [], rfl, ⟨[bz], [ba, bb], rfl, ⟨_, rfl, gc⟩, ⟨[ba], [bb], rfl, ⟨_, rfl, gd⟩, ⟨_, rfl, gf⟩⟩⟩, rfl⟩ rfl fY ?_)
  intro cd iL bD
  refine ⟨ag_nil, ?_⟩
  refine DL_done (Za rfl rfl (Zp F28_3 rfl aW rfl (Za rfl rfl (Exec.store_box (ds := [cd]) (es := [i, p, aj, cd, Value.slice none 0 0]) (bD).f7 A25 rfl rfl rfl (cells_one (((bD).f7).f1).arr_one) (Zj (((bD).f7).f1).arr_one one_nil) (Nat.le_of_ble_eq_true rfl) rfl ?_))))
  intro iM em
  refine Zb (ib_normal (Ze (Zd (Za rfl rfl (Exec.add rfl cf rfl (Za rfl rfl (Zm (v := Vi (IntKind.i64.wrap ((ez : Int) + 1))) rfl rfl (Zb (Ze ?_)))))))))
  have hi := Zu a4
  subst gy
  exact ⟨gz, cd, (Zt bl e8), ((((((((((((((em).f2).drop).f1).f11).f11).f11).f11).f11).f6).f11).f11).f11).f11).f11, fx, fy, fz, f0, cK, aW, cL, cM, (Eq.trans rfl (wrap_up ey (SliceRep.le (aB.mono (Zt (Zt (Zt (Zt (Zt g l) m) h) j) u)))))⟩
 intro hw iN dE
 obtain ⟨hI, ar, ak, bE, fA, cN, cO, fB, bn, cP, hC, fC, gB⟩ := dE
 refine Zc (Zd (Za rfl rfl (Zq rfl gB fC (Zb (Ze (Zc (W_false (Zx (decide_eq_false (by omega))) (W_exit (at_exit (at_exit (ib_here (Ze (Zc (Zd (Za rfl rfl (Exec.load_box_agg (ds := [n, o, Value.slice none 0 0]) ((bE).f4) A32 rfl bn rfl (Za rfl rfl (Exec.load_box_agg (ds := [aa, ab, ac, af, ah]) (bE) A28 rfl fA rfl (Za rfl rfl (Zm (v := Value.pointer (some ⟨b, 0, none⟩)) rfl fB ?_))))))))))))))))))))
 obtain ⟨g1, fZ, hm⟩ := Zg hm
 obtain ⟨iV, iW⟩ := g1
 replace hm := un2_eq hm
 refine Za rfl rfl (Tc rfl rfl rfl (Zi rfl (Zi rfl (Zi rfl args_nil))) (simplify_Map_operators_sim fZ (((bE).f7).f7).f5 (aM.mono (Zt (Zt (Zt h j) u) ak)) (bi.mono (Zt (Zt (Zt h j) u) ak)) (SliceRep.nil _ _) (a8.mono (Zt (Zt (Zt (Zt (Zt (Zt g l) m) h) j) u) ak)) (a9.mono (Zt (Zt (Zt (Zt (Zt (Zt g l) m) h) j) u) ak)) (aA.mono (Zt (Zt (Zt (Zt (Zt (Zt g l) m) h) j) u) ak)) (aB.mono (Zt (Zt (Zt (Zt (Zt (Zt g l) m) h) j) u) ak)) (b3.mono (Zt (Zt (Zt (Zt (Zt (Zt g l) m) h) j) u) ak))).r ?_)
 rintro _ iO ⟨hJ, az, au, aT, en, rfl, bs, bt⟩
 refine Za rfl rfl (Zm (v := Value.tuple #[az, au]) rfl rfl (Za rfl rfl (Exec.extract (v := az) rfl rfl rfl (Za rfl rfl (Exec.extract (v := au) rfl rfl rfl (Za rfl rfl (Zp F28_4 rfl cP rfl (Za rfl rfl (Exec.store_box (ds := [az]) (es := [i, p, aj, ar, az]) (en).f7 A26 rfl rfl rfl (cells_one (bs).one) (Zj (bs).one one_nil) (Nat.le_of_ble_eq_true rfl) rfl ?_)))))))))
 intro iP eo
 refine Za rfl rfl (Zp F32_2 rfl bn rfl (Za rfl rfl (Exec.store_box (ds := [au]) (es := [n, o, au]) (eo).f7 A24 rfl rfl rfl (cells_one (bt).one) (Zj (bt).one one_nil) (Nat.le_of_ble_eq_true rfl) rfl ?_)))
 intro iQ bF
 refine Zb (Ze (Zc (W_dl (n0 := 3) (.q 0 (.q 1 (.e 2 [1] .done))) hmix (by kernel_rfl) (by kernel_rfl) (DL_q rfl rfl (Exec.load_box_agg (ds := [i, p, aj, ar, az]) ((bF.drew).f1) A28 rfl cP rfl ⟨rfl, ?_⟩)))))
 refine DL_q rfl rfl (Exec.load_box_agg (ds := [n, o, au]) (bF.drew) A32 rfl bn rfl ⟨rfl, ?_⟩)
 have aH := (bF.drew).f6
 refine DL_e rfl rfl (Exec.store_box (ds := [i, p, aj, ar, az]) (es := [i, p, aj, ar, az]) aH A28 rfl cN rfl rfl (Zj ((aH).f8).arr_one (Zj ((aH).f9).arr_one (Zj ((aH).f10).arr_one (Zj ((aH).f11).arr_one (Zj (bs).one one_nil))))) (Nat.le_of_ble_eq_true rfl) rfl ?_)
 intro iR c0
 refine ⟨(ag_cons (ag_r rfl rfl (Exec.load_box_agg (ds := [n, o, au]) ((c0).f1) A32 rfl bn rfl ⟨rfl, rfl⟩)) ag_nil), ?_⟩
 refine DL_done (Za rfl rfl (Exec.store_box (ds := [n, o, au]) (es := [n, o, au]) (c0).f7 A32 rfl cO rfl rfl (Zj ((aM.mono (Zt (Zt (Zt (Zt h j) u) ak) aT))).one (Zj ((bi.mono (Zt (Zt (Zt (Zt h j) u) ak) aT))).one (Zj (bt).one one_nil))) (Nat.le_of_ble_eq_true rfl) rfl ?_))
 intro iS bG
 refine Za rfl rfl (Zo (v := errV 41 (none)) rfl rfl (Zb (Ze (W_ret ?_))))
 have hj := Zu hm
 subst r
 refine ⟨_, retG3 rfl ⟨_, _, cN, cellRes ((bG).f1) A28⟩ ⟨_, _, cO, cellRes (bG) A32⟩ rfl, ?_⟩
 obtain ⟨hK, aU, ep, gg⟩ := (bG).f8.freezeArr
 obtain ⟨hL, aD, er, gh⟩ := (ep).f8.freezeArr
 obtain ⟨hM, a5, et, gi⟩ := (er).f8.freezeArr
 obtain ⟨g0, ax, eu, gj⟩ := (et).f8.freezeArr
 exact ⟨g0, i, p, aj, ar, az, n, o, au, (Zt (Zt (Zt (Zt (Zt (Zt (Zt (Zt (Zt (Zt (Zt g l) m) h) j) u) ak) aT) aU) aD) a5) ax), ((((((((eu).drop).drop).drop).drop).drop).drop).drop).drop, (tup3 rfl rfl rfl), (gg.mono (Zt (Zt aD a5) ax)), (gh.mono (Zt a5 ax)), (gi.mono ax), gj, (bs.mono (Zt (Zt (Zt aU aD) a5) ax)), (aM.mono (Zt (Zt (Zt (Zt (Zt (Zt (Zt (Zt h j) u) ak) aT) aU) aD) a5) ax)), (bi.mono (Zt (Zt (Zt (Zt (Zt (Zt (Zt (Zt h j) u) ak) aT) aU) aD) a5) ax)), (bt.mono (Zt (Zt (Zt aU aD) a5) ax))⟩
theorem base_Ints_sim {w0 w : World} {s : PHeap} {H : List Res} {j : (List Int)} {q : (List Int)} {b : Value} {c : Value} {r : Bool} (hm : base_Ints_p j q = some r) (hS : St w0 s (H) w) (l : SliceRep (encInt .i64) s b j) (p : SliceRep (encInt .i64) s c q) :
  Calls Try.prog 16 #[b, c] w fun e w' => ∃ v, e = .returned v ∧ ((fun (a8 : Bool) => ∃ (ac : PHeap) , PHeap.le s ac ∧ St w0 ac (H) w' ∧ v = Value.bool (a8)) r) := by
 unfold base_Ints_p at hm
 refine calls_of_W Try.func16 rfl rfl (Zc (Zd (Za rfl rfl (Zo (v := Value.bool (false)) rfl rfl (Zb (Ze (Zc (Zc (Zd (Za rfl rfl (Zm (v := b) rfl rfl (Za rfl rfl (Zr S24 rfl rfl l (Za rfl rfl (Zm (v := c) rfl rfl (Za rfl rfl (Zr S24 rfl rfl p (Za rfl rfl (Exec.neq rfl rfl rfl (Zb (Ze ?_)))))))))))))))))))))
 rcases ite_some hm with ⟨d, hm⟩ | ⟨d, hm⟩
 ·refine W_cond_t rfl d (Zc (Zd (Za rfl rfl (Zo (v := Value.bool (false)) rfl rfl (Zb (Ze (W_ret (at_ret ?_))))))))
  have aB := Zu hm
  subst r
  refine ⟨_, ret1 rfl, ?_⟩
  exact ⟨s, (Zv _), hS, rfl⟩
 refine W_cond_f rfl d ?_
 replace d := Zk d
 refine W_skip (Ze (Zc (Zc (Zd (Za rfl rfl (Zm (v := b) rfl rfl (Za rfl rfl (Zr S24 rfl rfl l (Za rfl rfl (Zm (v := Vi (0)) rfl rfl (Zb (Ze ?_))))))))))))
 obtain ⟨t, ai, au, aq, ao⟩ := ctl_some hm
 refine W_mid (M := fun f' w' => ∃ s', (t = .next s' ∨ t = .brk s') ∧ (fun (_ : Unit) => ∃ (ad : PHeap) , PHeap.le s ad ∧ St w0 ad (H) w' ∧ f' 0 = b ∧ f' 1 = c ∧ f' 12 = Vi ((j.length : Int))) s') ?_ ?_
 ·refine W_block (W_forC (fun k' s' f' w' => (fun (_ : Unit) => ∃ (ae : PHeap) , PHeap.le s ae ∧ St w0 ae (H) w' ∧ f' 0 = b ∧ f' 1 = c ∧ f' 12 = Vi ((j.length : Int)) ∧ f' 13 = Vi (k' : Int)) s') ai ?_ ?_ ?_)
  ·exact ⟨s, (Zv _), hS, rfl, rfl, rfl, rfl⟩
  ·intro i aQ u aI aV ap aj a av
   obtain ⟨af, n, m, y, z, aa, o⟩ := aj
   refine Zc (Zd (Za rfl rfl (Zq rfl o aa (Zb (Ze (Zc (W_true (Zx (decide_eq_true (by omega))) (W_skip (Ze (Zc (W_block (Zc (Zd (Za rfl rfl (Zm (v := Vi ((i : Int))) rfl o (Za rfl rfl (Zo (v := Vi ((i : Int))) rfl rfl (Zb (Ze (Zc (W_dl (n0 := 9) (qs 0 9 .done) hmix (by kernel_rfl) (by kernel_rfl) (DL_q rfl rfl (Zm (v := b) rfl y ⟨rfl, ?_⟩)))))))))))))))))))))))
   refine DL_q rfl rfl (Zm (v := Vi ((i : Int))) rfl rfl ⟨rfl, ?_⟩)
   obtain ⟨aY, a1, a⟩ := Zg a
   refine DL_q rfl rfl (Exec.index_repE S24 rfl rfl rfl (l.mono n) a1 ?_)
   intro a9 aL ag aC
   refine ⟨rfl, ?_⟩
   refine DL_q rfl rfl (Zw (E := (encInt .i64)) m.drew A3 rfl rfl rfl ag ?_)
   intro aT a2
   obtain rfl := encInt_val.1 a2
   refine ⟨rfl, ?_⟩
   refine DL_q rfl rfl (Zm (v := c) rfl z ⟨rfl, ?_⟩)
   refine DL_q rfl rfl (Zm (v := Vi ((i : Int))) rfl rfl ⟨rfl, ?_⟩)
   obtain ⟨aZ, a3, a⟩ := Zg a
   refine DL_q rfl rfl (Exec.index_repE S24 rfl rfl rfl (p.mono n) a3 ?_)
   intro aA aM ah aD
   refine ⟨rfl, ?_⟩
   refine DL_q rfl rfl (Zw (E := (encInt .i64)) m.drew A3 rfl rfl rfl ah ?_)
   intro aU a4
   obtain rfl := encInt_val.1 a4
   refine ⟨rfl, ?_⟩
   refine DL_q rfl rfl (Exec.neq rfl rfl rfl ⟨rfl, ?_⟩)
   refine DL_done (Zb (Ze ?_))
   rcases ite_some a with ⟨g, a⟩ | ⟨g, a⟩
   ·refine W_cond_t rfl g (Zc (Zd (Za rfl rfl (Zo (v := Value.bool (false)) rfl rfl (Zb (Ze (W_ret (ib_ret (at_ret (at_ret (ib_ret (at_ret (at_ret ?_)))))))))))))
    have aE := Zu a
    subst u
    have ar := au _ (av (by intro _ h; cases h))
    have aF := Zu ar
    subst r
    refine ⟨_, ret1 rfl, ?_⟩
    exact ⟨af, n, m.drew, rfl⟩
   refine W_cond_f rfl g ?_
   replace g := Zk g
   refine W_skip (ib_normal (Ze (Zd (Za rfl rfl (Exec.add rfl o rfl (Za rfl rfl (Zm (v := Vi (IntKind.i64.wrap ((i : Int) + 1))) rfl rfl (Zb (Ze ?_)))))))))
   have aG := Zu a
   subst u
   refine ⟨_, rfl, ?_⟩; exact ⟨af, n, m.drew, y, z, aa, (Eq.trans rfl (wrap_up ap (SliceRep.le l)))⟩
  intro aR aJ aW ak aw
  obtain ⟨a5, ax, am, az, a0, ab, a7⟩ := ak
  refine Zc (Zd (Za rfl rfl (Zq rfl a7 ab (Zb (Ze (Zc (W_false (Zx (decide_eq_false (by omega))) (W_exit (at_exit (at_exit (ib_here (Ze ?_))))))))))))
  refine ⟨_, .inl aw, ?_⟩; exact ⟨a5, ax, am, az, a0, ab⟩
 rintro aK aX ⟨aS, x, al⟩
 have hm := x.elim (aq _) (ao _)
 clear x
 obtain ⟨a6, ay, an, aN, aO, aP⟩ := al
 refine (Ze (Zc (Zd (Za rfl rfl (Zo (v := Value.bool (true)) rfl rfl (Zb (Ze (W_ret ?_))))))))
 have aH := Zu hm
 subst r
 refine ⟨_, ret1 rfl, ?_⟩
 exact ⟨a6, ay, an, rfl⟩
theorem law19_awake_sim {w0 w : World} {s : PHeap} {H : List Res} {fu : Nat}  {r : Bool} (hm : law19_awake_p fu = some r) (hS : St w0 s (H) w)  :
  Calls Try.prog 11 #[] w fun e w' => ∃ v, e = .returned v ∧ ((fun (aW : Bool) => ∃ (al : PHeap) , PHeap.le s al ∧ St w0 al (H) w' ∧ v = Value.bool (aW)) r) := by
 unfold law19_awake_p at hm
 refine calls_of_W Try.func11 rfl rfl (Zc (Zd (Za rfl rfl (Zo (v := Value.bool (false)) rfl rfl (Zb (Ze (Zc (Zd (Za rfl rfl (Tc rfl rfl rfl args_nil (law19_sample_sim law19_sample_tot hS ).r ?_))))))))))
 rintro _ bz ⟨bp, bs, bt, bu, bv, bw, a6, ar, rfl, aG, aH, aI, aJ, aK⟩
 obtain ⟨aU, aB, hm⟩ := Zg hm
 obtain ⟨o, bA, bB⟩ := aU
 replace hm := un3_eq hm
 refine Za rfl rfl (Tc rfl rfl rfl (Zi rfl args_nil) (simplify_Simplify_sim aB ar aG aH aI aJ aK).r ?_)
 rintro _ b0 ⟨n, t, u, x, y, z, aa, ab, ac, a7, au, rfl, ah, aL, ai, aM, q, aj, aN, ak⟩
 refine Za rfl rfl (Zm (v := Value.tuple #[Value.agg #[t, u, x, y, z], Value.agg #[aa, ab, ac], errV 41 (o)]) rfl rfl (Za rfl rfl (Exec.extract (v := Value.agg #[t, u, x, y, z]) rfl rfl rfl (Za rfl rfl (Exec.extract (v := Value.agg #[aa, ab, ac]) rfl rfl rfl (Za rfl rfl (Exec.extract (v := errV 41 (o)) rfl rfl rfl (Za rfl rfl (Exec.alloc (cs := [Value.slice none 0 0, Value.slice none 0 0, Value.slice none 0 0, Value.slice none 0 0, Value.slice none 0 0]) au Z28 rfl rfl ?_)))))))))
 intro aX b1 av
 refine Za rfl rfl (Exec.alloc (cs := [Value.slice none 0 0, Value.slice none 0 0, Value.slice none 0 0]) av Z32 rfl rfl ?_)
 intro aY b2 aw
 refine Za rfl rfl (Exec.store_box (ds := [t, u, x, y, z]) (es := [t, u, x, y, z]) (aw).f1 A28 rfl rfl rfl rfl (Zj (ah).one (Zj (aL).one (Zj (ai).one (Zj (aM).one (Zj (q).one one_nil))))) (Nat.le_of_ble_eq_true rfl) rfl ?_)
 intro b3 ax
 refine Za rfl rfl (Exec.store_box (ds := [aa, ab, ac]) (es := [aa, ab, ac]) (ax).f1 A32 rfl rfl rfl rfl (Zj (aj).one (Zj (aN).one (Zj (ak).one one_nil))) (Nat.le_of_ble_eq_true rfl) rfl ?_)
 intro b4 b
 refine Za rfl rfl (Zo (v := errV 41 (o)) rfl rfl (Zb (Ze (Zc ?_))))
 obtain ⟨h, a, hm⟩ := Zg hm
 refine W_mid (M := fun f' w' => (fun (h : Bool) => ∃ (am : PHeap) , PHeap.le n am ∧ St w0 am (H) w' ∧ f' 0 = Value.bool (h)) h) ?_ ?_
 ·refine Zd (Za rfl rfl (Zm (v := errV 41 (o)) rfl rfl (Za rfl rfl (Exec.err_eql_nil (T := 41) Try.underlying34 rfl rfl rfl (Za rfl rfl (Zm (v := Value.bool (o.isNone)) rfl rfl ?_))))))
  rcases ite_some a with ⟨i, a⟩ | ⟨i, a⟩
  ·refine WL_run rfl (Zf rfl (Zx i)) rfl (Zp F28_0 rfl rfl rfl (WL_run rfl (Zf rfl (Zx i)) rfl (Zn ((b).f1) A22 rfl rfl rfl (WL_run rfl (Zf rfl (Zx i)) rfl (Zr S22 rfl rfl ah (WL_run rfl (Zf rfl (Zx i)) rfl (Exec.eql rfl rfl rfl ?_)))))))
   refine WL_passes 2 (by rw [i]; rfl) ?_
   rcases ite_some a with ⟨j, a⟩ | ⟨j, a⟩
   ·refine WL_run rfl (Zf rfl (Zx j)) rfl (Zp F28_2 rfl rfl rfl (WL_run rfl (Zf rfl (Zx j)) rfl (Zn ((b).f1) A24 rfl rfl rfl (WL_run rfl (Zf rfl (Zx j)) rfl (Zr S24 rfl rfl ai (WL_run rfl (Zf rfl (Zx j)) rfl (Exec.eql rfl rfl rfl ?_)))))))
    refine WL_passes 2 (by rw [j]; rfl) ?_
    rcases ite_some a with ⟨k, a⟩ | ⟨k, a⟩
    ·refine WL_run rfl (Zf rfl (Zx k)) rfl (Zp F28_4 rfl rfl rfl (WL_run rfl (Zf rfl (Zx k)) rfl (Zn ((b).f1) A26 rfl rfl rfl (WL_run rfl (Zf rfl (Zx k)) rfl (Zr S26 rfl rfl q (WL_run rfl (Zf rfl (Zx k)) rfl (Exec.eql rfl rfl rfl ?_)))))))
     refine WL_passes 2 (by rw [k]; rfl) ?_
     rcases ite_some a with ⟨g, a⟩ | ⟨g, a⟩
     ·refine WL_run rfl (Zf rfl (Zx g)) rfl (Zp F28_4 rfl rfl rfl (WL_run rfl (Zf rfl (Zx g)) rfl (Zn ((b).f1) A26 rfl rfl rfl ?_)))
      obtain ⟨an, ag, a⟩ := Zg a
      refine WL_run rfl (Zf rfl (Zx g)) rfl (Exec.index_rep S26 rfl rfl rfl q ag ?_)
      intro aZ bn ao
      refine WL_run rfl (Zf rfl (Zx g)) rfl (Zp F51_0 rfl rfl rfl (WL_run rfl (Zf rfl (Zx g)) rfl (Zw (E := encStr) b A9 rfl rfl rfl (ao.sub (Sub.iso (Sub.fst (Sub.refl _))) rfl) ?_)))
      intro aV aC
      obtain rfl : aV = Value.string (an.Name) := encStr_val.1 aC
      refine WL_run rfl (Zf rfl (Zx g)) rfl (Exec.str_eql rfl rfl rfl ?_)
      refine WL_passes 2 (by rw [g]; rfl) ?_
      rcases ite_some a with ⟨d, a⟩ | ⟨d, a⟩
      ·refine WL_run rfl (Zf rfl (Zx d)) rfl (Zp F28_4 rfl rfl rfl (WL_run rfl (Zf rfl (Zx d)) rfl (Zn ((b).f1) A26 rfl rfl rfl (WL_run rfl (Zf rfl (Zx d)) rfl (Exec.index_rep S26 rfl rfl rfl q ag ?_)))))
       intro ba bo ap
       refine WL_run rfl (Zf rfl (Zx d)) rfl (Zp F51_3 rfl rfl rfl (WL_run rfl (Zf rfl (Zx d)) rfl (Zw (E := (encSlice encGChange)) b A48 rfl rfl rfl (ap.sub (Sub.iso (Sub.snd (Sub.snd (Sub.snd (Sub.fst (Sub.refl _)) rfl) rfl) rfl)) rfl) ?_)))
       intro bx aD
       have aO : SliceRep _ _ _ (an.Changes) := encSlice_val.1 aD
       refine WL_run rfl (Zf rfl (Zx d)) rfl (Zr S48 rfl rfl aO (WL_run rfl (Zf rfl (Zx d)) rfl (Exec.eql rfl rfl rfl ?_)))
       refine WL_passes 2 (by rw [d]; rfl) ?_
       rcases ite_some a with ⟨l, a⟩ | ⟨l, a⟩
       ·refine WL_run rfl (Zf rfl (Zx l)) rfl (Zp F32_2 rfl rfl rfl (WL_run rfl (Zf rfl (Zx l)) rfl (Zn (b) A24 rfl rfl rfl (WL_run rfl (Zf rfl (Zx l)) rfl (Exec.buildSlice (Te := 3) (cs := [Vi ((-1)), Vi ((-1)), Vi (0)]) b rfl (parts_cons (c := [Vi ((-1))]) (cells_of rfl rfl) (parts_cons (c := [Vi ((-1))]) (cells_of rfl rfl) (parts_cons (c := [Vi (0)]) (cells_of rfl rfl) parts_nil))) (fun _ => by kernel_rfl) ?_)))))
        intro bb b5 ay
        have az := St.boxArr (E := (encInt .i64)) (xs := [(-1), (-1), 0]) ay ⟨[Vi ((-1))], [Vi ((-1)), Vi (0)], rfl, rfl, ⟨[Vi ((-1))], [Vi (0)], rfl, rfl, ⟨[Vi (0)], [], rfl, rfl, rfl⟩⟩⟩ (by simp [maxLen])
        obtain ⟨bq, p, a0, aP⟩ := az.freezeArr
        obtain ⟨bC, aE, a⟩ := Zg a
        refine WL_run rfl (Zf rfl (Zx l)) rfl (Tc rfl rfl rfl (Zi rfl (Zi rfl args_nil)) (base_Ints_sim aE a0 (ak.mono p) aP).r ?_)
        rintro _ b6 ⟨aR, ae, ad, rfl⟩
        refine WL_passes 2 (by rw [l]; rfl) ?_
        rcases ite_some a with ⟨m, a⟩ | ⟨m, a⟩
        ·refine WL_run rfl (Zf rfl (Zx m)) rfl (Zp F32_0 rfl rfl rfl (WL_run rfl (Zf rfl (Zx m)) rfl (Zn (ad) A24 rfl rfl rfl (WL_run rfl (Zf rfl (Zx m)) rfl (Exec.buildSlice (Te := 3) (cs := [Vi (0), Vi (1), Vi ((-1))]) ad rfl (parts_cons (c := [Vi (0)]) (cells_of rfl rfl) (parts_cons (c := [Vi (1)]) (cells_of rfl rfl) (parts_cons (c := [Vi ((-1))]) (cells_of rfl rfl) parts_nil))) (fun _ => by kernel_rfl) ?_)))))
         intro bc b7 a1
         have a2 := St.boxArr (E := (encInt .i64)) (xs := [0, 1, (-1)]) a1 ⟨[Vi (0)], [Vi (1), Vi ((-1))], rfl, rfl, ⟨[Vi (1)], [Vi ((-1))], rfl, rfl, ⟨[Vi ((-1))], [], rfl, rfl, rfl⟩⟩⟩ (by simp [maxLen])
         obtain ⟨br, af, a3, aQ⟩ := a2.freezeArr
         obtain ⟨bD, aF, a⟩ := Zg a
         refine WL_run rfl (Zf rfl (Zx m)) rfl (Tc rfl rfl rfl (Zi rfl (Zi rfl args_nil)) (base_Ints_sim aF a3 (aj.mono (Zt (Zt p ae) af)) aQ).r ?_)
         rintro _ b8 ⟨aS, a8, a4, rfl⟩
         refine WL_passes 2 (by rw [m]; rfl) ?_
         refine Zb (Ze ?_)
         have bd := Zu a
         subst h
         exact ⟨aS, (Zt (Zt (Zt p ae) af) a8), ((a4).drop).drop, rfl⟩
        replace m := Zk m
        refine WL_passes 6 (by rw [m]; rfl) ?_
        refine Zb (Ze ?_)
        have be := Zu a
        subst h
        exact ⟨aR, (Zt p ae), ((ad).drop).drop, rfl⟩
       replace l := Zk l
       refine WL_passes 12 (by rw [l]; rfl) ?_
       refine Zb (Ze ?_)
       have bf := Zu a
       subst h
       exact ⟨n, (Zv _), ((b).drop).drop, rfl⟩
      replace d := Zk d
      refine WL_passes 21 (by rw [d]; rfl) ?_
      refine Zb (Ze ?_)
      have bg := Zu a
      subst h
      exact ⟨n, (Zv _), ((b).drop).drop, rfl⟩
     replace g := Zk g
     refine WL_passes 29 (by rw [g]; rfl) ?_
     refine Zb (Ze ?_)
     have bh := Zu a
     subst h
     exact ⟨n, (Zv _), ((b).drop).drop, rfl⟩
    replace k := Zk k
    refine WL_passes 35 (by rw [k]; rfl) ?_
    refine Zb (Ze ?_)
    have bi := Zu a
    subst h
    exact ⟨n, (Zv _), ((b).drop).drop, rfl⟩
   replace j := Zk j
   refine WL_passes 41 (by rw [j]; rfl) ?_
   refine Zb (Ze ?_)
   have bj := Zu a
   subst h
   exact ⟨n, (Zv _), ((b).drop).drop, rfl⟩
  replace i := Zk i
  refine WL_passes 47 (by rw [i]; rfl) ?_
  refine Zb (Ze ?_)
  have bk := Zu a
  subst h
  exact ⟨n, (Zv _), ((b).drop).drop, rfl⟩
 intro bm b9 aq
 obtain ⟨aT, a9, a5, aA⟩ := aq
 refine (Ze (W_ret ?_))
 have bl := Zu hm
 subst r
 refine ⟨_, ret1 rfl, ?_⟩
 exact ⟨aT, (Zt (Zt a6 a7) a9), a5, aA⟩
end Go.Pw
