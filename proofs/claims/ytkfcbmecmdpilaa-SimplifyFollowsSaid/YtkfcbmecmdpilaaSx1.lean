/-
  The walks (printed by my generator).
-/
import Derived.Test.YtkfcbmecmdpilaaL29
import Derived.Test.YtkfcbmecmdpilaaL27
import Derived.Test.YtkfcbmecmdpilaaSx0
set_option maxRecDepth 100000
set_option maxHeartbeats 4000000
set_option linter.unusedVariables false
namespace Go.Pw
open Go.Proofs
theorem ground_Valid_sim {w0 w : World} {s : PHeap} {H : List Res} {fu : Nat} {b : Ground} {aa : Value} {x : Value} {t : Value} {o : Value} {p : Value} {r : Bool} (hm : ground_Valid_p fu b = some r) (hS : St w0 s (H) w) (ad : SliceRep encAtom s aa b.Atoms) (ae : SliceRep encGFluent s x b.Fluents) (al : SliceRep (encInt .i64) s t b.Init) (af : SliceRep encCond s o b.Goal) (am : SliceRep encGOp s p b.Ops) :
  Calls Try.prog 18 #[Value.agg #[aa, x, t, o, p]] w fun e w' => ∃ v, e = .returned v ∧ ((fun (aE : Bool) => ∃ (ap : PHeap) , PHeap.le s ap ∧ St w0 ap (H) w' ∧ v = Value.bool (aE)) r) := by
 unfold ground_Valid_p at hm
 refine calls_of_W Try.func18 rfl rfl (Zc (Zd (Za rfl rfl (Exec.box (cs := [aa, x, t, o, p]) hS rfl rfl rfl ?_))))
 intro an aQ n
 refine Za rfl rfl (Zo (v := Value.bool (false)) rfl rfl (Zb (Ze (Zc (Zc (W_mid (M := fun f' w' => ∃ (aq : PHeap) , PHeap.le s aq ∧ St w0 aq (Res.box an 28 [aa, x, t, o, p] :: H) w' ∧ f' 1 = Value.pointer (some ⟨an, 0, none⟩) ∧ f' 24 = Value.bool (((decide (4096 < (b.Atoms.length : Int))) || ((decide (4096 < (b.Fluents.length : Int))) || ((decide (4096 < (b.Ops.length : Int))) || decide (64 < (b.Goal.length : Int))))))) ?_ ?_))))))
 ·refine Zd (Za rfl rfl (Zp F28_0 rfl rfl rfl (Za rfl rfl (Zn (n) A22 rfl rfl rfl (Za rfl rfl (Zr S22 rfl rfl ad (Za rfl rfl (Exec.gtr rfl rfl rfl (Za rfl rfl (Zm (v := Value.bool (decide (4096 < (b.Atoms.length : Int)))) rfl rfl ?_))))))))))
  by_cases c : (decide (4096 < (b.Atoms.length : Int))) = true
  ·refine WL_passes 17 (by rw [c]; rfl) ?_
   refine Zb (Ze ?_)
   exact ⟨s, (Zv _), n, rfl, (Zx (or_t c)).symm⟩
  replace c := Zk c
  refine WL_run rfl (Zf rfl (Zx c)) rfl (Zp F28_1 rfl rfl rfl (WL_run rfl (Zf rfl (Zx c)) rfl (Zn (n) A23 rfl rfl rfl (WL_run rfl (Zf rfl (Zx c)) rfl (Zr S23 rfl rfl ae (WL_run rfl (Zf rfl (Zx c)) rfl (Exec.gtr rfl rfl rfl ?_)))))))
  refine WL_passes 2 (by rw [c]; rfl) ?_
  by_cases g : (decide (4096 < (b.Fluents.length : Int))) = true
  ·refine WL_passes 11 (by rw [g]; rfl) ?_
   refine Zb (Ze ?_)
   exact ⟨s, (Zv _), n, rfl, (Zx (Eq.trans (or_f c) (or_t g))).symm⟩
  replace g := Zk g
  refine WL_run rfl (Zf rfl (Zx g)) rfl (Zp F28_4 rfl rfl rfl (WL_run rfl (Zf rfl (Zx g)) rfl (Zn (n) A26 rfl rfl rfl (WL_run rfl (Zf rfl (Zx g)) rfl (Zr S26 rfl rfl am (WL_run rfl (Zf rfl (Zx g)) rfl (Exec.gtr rfl rfl rfl ?_)))))))
  refine WL_passes 2 (by rw [g]; rfl) ?_
  by_cases j : (decide (4096 < (b.Ops.length : Int))) = true
  ·refine WL_passes 5 (by rw [j]; rfl) ?_
   refine Zb (Ze ?_)
   exact ⟨s, (Zv _), n, rfl, (Zx (Eq.trans (or_f c) (Eq.trans (or_f g) (or_t j)))).symm⟩
  replace j := Zk j
  refine WL_run rfl (Zf rfl (Zx j)) rfl (Zp F28_3 rfl rfl rfl (WL_run rfl (Zf rfl (Zx j)) rfl (Zn (n) A25 rfl rfl rfl (WL_run rfl (Zf rfl (Zx j)) rfl (Zr S25 rfl rfl af (WL_run rfl (Zf rfl (Zx j)) rfl (Exec.gtr rfl rfl rfl (Za rfl rfl (Exec.pick_f (v := Value.bool (decide (64 < (b.Goal.length : Int)))) rfl (Zx j) rfl (Zb (Ze ?_)))))))))))
  exact ⟨s, (Zv _), n, rfl, (Zx (Eq.trans (or_f c) (Eq.trans (or_f g) (or_f j)))).symm⟩
 intro aM aR av
 obtain ⟨ar, i, ag, q, ao⟩ := av
 refine (Ze ?_)
 rcases ite_some hm with ⟨z, hm⟩ | ⟨z, hm⟩
 ·refine W_cond_t ao z (Zc (Zd (Za rfl rfl (Zo (v := Value.bool (false)) rfl rfl (Zb (Ze (W_ret (at_ret ?_))))))))
  have aG := Zu hm
  subst r
  refine ⟨_, ret1 rfl, ?_⟩
  exact ⟨ar, i, (ag).drop, rfl⟩
 refine W_cond_f ao z ?_
 replace z := Zk z
 refine W_skip (Ze (Zc ?_))
 obtain ⟨u, a, hm⟩ := Zg hm
 refine W_mid (M := fun f' w' => (fun (u : Bool) => ∃ (au : PHeap) , PHeap.le ar au ∧ St w0 au (H) w' ∧ f' 2 = Value.bool (u)) u) ?_ ?_
 ·refine Zd (Za rfl rfl (Zp F28_1 rfl q rfl (Za rfl rfl (Zn (ag) A23 rfl rfl rfl ?_))))
  obtain ⟨aF, a3, a⟩ := Zg a
  refine Za rfl rfl (Tc rfl rfl rfl (Zi rfl (Zi rfl args_nil)) (api_GFluent__f52_sim a3 ag (ae.mono i)).r ?_)
  rintro _ aS ⟨a9, d, ab, rfl⟩
  refine Za rfl rfl (Exec.not rfl rfl (Za rfl rfl (Zm (v := Value.bool (!aF)) rfl rfl ?_)))
  rcases ite_some a with ⟨h, a⟩ | ⟨h, a⟩
  ·refine WL_run rfl (Zf rfl (Zx h)) rfl (Zp F28_2 rfl q rfl (WL_run rfl (Zf rfl (Zx h)) rfl (Zn (ab) A24 rfl rfl rfl (WL_run rfl (Zf rfl (Zx h)) rfl (Zp F28_0 rfl q rfl (WL_run rfl (Zf rfl (Zx h)) rfl (Zn (ab) A22 rfl rfl rfl (WL_run rfl (Zf rfl (Zx h)) rfl (Zr S22 rfl rfl (ad.mono (Zt i d)) ?_)))))))))
   obtain ⟨aX, a4, a⟩ := Zg a
   refine WL_run rfl (Zf rfl (Zx h)) rfl (Tc rfl rfl rfl (Zi rfl (Zi rfl args_nil)) (ground_indices_sim a4 ab (al.mono (Zt i d))).r ?_)
   rintro _ aT ⟨aA, m, ah, rfl⟩
   refine WL_passes 2 (by rw [h]; rfl) ?_
   rcases ite_some a with ⟨k, a⟩ | ⟨k, a⟩
   ·refine WL_run rfl (Zf rfl (Zx k)) rfl (Zp F28_3 rfl q rfl (WL_run rfl (Zf rfl (Zx k)) rfl (Zn (ah) A25 rfl rfl rfl ?_)))
    obtain ⟨aO, aj, ax, ak⟩ := St.freezeVar (E := encGround) (y := b) ah ⟨[aa], [x, t, o, p], rfl, ⟨_, rfl, (ad.mono (Zt (Zt i d) m))⟩, ⟨[x], [t, o, p], rfl, ⟨_, rfl, (ae.mono (Zt (Zt i d) m))⟩, ⟨[t], [o, p], rfl, ⟨_, rfl, (al.mono (Zt (Zt i d) m))⟩, ⟨[o], [p], rfl, ⟨_, rfl, (af.mono (Zt (Zt i d) m))⟩, ⟨_, rfl, (am.mono (Zt (Zt i d) m))⟩⟩⟩⟩⟩
    refine WL_run rfl (Zf rfl (Zx k)) rfl (Exec.makeFunc rfl (Zi q args_nil) ?_)
    obtain ⟨aY, a5, a⟩ := Zg a
    refine WL_run rfl (Zf rfl (Zx k)) rfl (Tc rfl rfl rfl (Zi rfl (Zi rfl args_nil)) (api_Cond__f56_sim a5 ax (af.mono (Zt (Zt (Zt i d) m) aj)) ak).r ?_)
    rintro _ aU ⟨aB, ac, ai, rfl⟩
    refine WL_run rfl (Zf rfl (Zx k)) rfl (Exec.not rfl rfl ?_)
    refine WL_passes 2 (by rw [k]; rfl) ?_
    rcases ite_some a with ⟨l, a⟩ | ⟨l, a⟩
    ·refine WL_run rfl (Zf rfl (Zx l)) rfl (Zp F28_4 rfl q rfl (WL_run rfl (Zf rfl (Zx l)) rfl (Zw (E := (encSlice encGOp)) ai A26 rfl rfl rfl ((ak.sub (Sub.iso (Sub.snd (Sub.snd (Sub.snd (Sub.snd (Sub.refl _) rfl) rfl) rfl) rfl)) rfl).mono ac) ?_)))
     intro aP a6
     have a8 : SliceRep _ _ _ (b.Ops) := encSlice_val.1 a6
     refine WL_run rfl (Zf rfl (Zx l)) rfl (Exec.makeFunc rfl (Zi q args_nil) ?_)
     obtain ⟨aZ, a7, a⟩ := Zg a
     refine WL_run rfl (Zf rfl (Zx l)) rfl (Tc rfl rfl rfl (Zi rfl (Zi rfl args_nil)) (api_GOp__f59_sim a7 ai a8 (ak.mono ac)).r ?_)
     rintro _ aV ⟨aC, a0, ay, rfl⟩
     refine WL_run rfl (Zf rfl (Zx l)) rfl (Exec.not rfl rfl ?_)
     refine WL_passes 2 (by rw [l]; rfl) ?_
     refine Zb (Ze ?_)
     have aH := Zu a
     subst u
     exact ⟨aC, (Zt (Zt (Zt (Zt d m) aj) ac) a0), ay, rfl⟩
    replace l := Zk l
    refine WL_passes 7 (by rw [l]; rfl) ?_
    refine Zb (Ze ?_)
    have aI := Zu a
    subst u
    exact ⟨aB, (Zt (Zt (Zt d m) aj) ac), ai, rfl⟩
   replace k := Zk k
   refine WL_passes 14 (by rw [k]; rfl) ?_
   refine Zb (Ze ?_)
   have aJ := Zu a
   subst u
   exact ⟨aA, (Zt d m), (ah).drop, rfl⟩
  replace h := Zk h
  refine WL_passes 22 (by rw [h]; rfl) ?_
  refine Zb (Ze ?_)
  have aK := Zu a
  subst u
  exact ⟨a9, d, (ab).drop, rfl⟩
 intro aN aW aw
 obtain ⟨aD, a1, az, a2⟩ := aw
 refine (Ze (W_ret ?_))
 have aL := Zu hm
 subst r
 refine ⟨_, ret1 rfl, ?_⟩
 exact ⟨aD, (Zt i a1), az, a2⟩
theorem C41 : Try.prog.concrete 41 = true := by kernel_rfl
theorem A32 : tyAgg Try.prog 32 = some (true, 3) := by kernel_rfl
theorem S60 : tySlice Try.prog 60 = some (4, 1, 1) := by kernel_rfl
theorem Z47 : tyZero Try.prog 47 = some (Value.agg #[Value.slice none 0 0, Value.slice none 0 0, Value.slice none 0 0]) := by kernel_rfl
theorem F90_0 : tyField Try.prog 90 0 = some 0 := by kernel_rfl
theorem A60 : tyAgg Try.prog 60 = some (false, 1) := by kernel_rfl
theorem A4 : tyAgg Try.prog 4 = some (false, 1) := by kernel_rfl
theorem F90_2 : tyField Try.prog 90 2 = some 2 := by kernel_rfl
theorem simplify_sets_mark_sim {w0 w : World} {s : PHeap} {H : List Res} {g : simplify_sets} {j : Int} {h : Nat} {a : Value} {d : Value} {r : Bool × (List Bool)} (hm : simplify_sets_mark_p g j = some r) (hS : St w0 s (Res.box h 90 [a, d, Value.bool (g.changed)] :: Res.arr encBool 4 a g.atoms :: Res.arr encBool 4 d g.fluents :: H) w)  :
  Calls Try.prog 105 #[Value.pointer (some ⟨h, 0, none⟩), a, Vi (j)] w fun e w' => ∃ v, e = .returned v ∧ ((un2 fun (ag : Bool) (z : (List Bool)) => ∃ (o : PHeap) , PHeap.le s o ∧ St w0 o (Res.box h 90 [a, d, Value.bool (ag)] :: Res.arr encBool 4 a z :: Res.arr encBool 4 d g.fluents :: H) w' ∧ v = Value.tuple #[]) r) := by
 unfold simplify_sets_mark_p at hm
 refine calls_of_W Try.func105 rfl rfl (Zc (Zd (Za rfl rfl (Zm (v := a) rfl rfl (Za rfl rfl (Zm (v := Vi (j)) rfl rfl ?_))))))
 obtain ⟨af, c, hm⟩ := Zg hm
 obtain ⟨an, ah, l⟩ := ((hS).f1).arr_at c
 refine Za rfl rfl (Exec.index_slice S60 rfl l rfl (idx_some c).1 (idx_some c).2.1 (Za rfl rfl (Exec.load_arr (F := encBool) ((hS).f1) l A4 rfl rfl rfl c (Sub.refl _) ?_)))
 intro ae ab
 obtain rfl : ae = Value.bool (af) := encBool_val.1 ab
 refine Za rfl rfl (Exec.not rfl rfl (Zb (Ze ?_)))
 obtain ⟨k, b, hm⟩ := Zg hm
 refine W_mid (M := fun f' w' => (un2 fun (q : Bool) (n : (List Bool)) => ∃ (p : PHeap) , PHeap.le s p ∧ St w0 p (Res.box h 90 [a, d, Value.bool (q)] :: Res.arr encBool 4 a n :: Res.arr encBool 4 d g.fluents :: H) w') k) ?_ ?_
 ·rcases ite_some b with ⟨i, b⟩ | ⟨i, b⟩
  ·refine W_cond_t rfl i (Zd (Za rfl rfl (Zm (v := a) rfl rfl (Za rfl rfl (Zm (v := Vi (j)) rfl rfl (Za rfl rfl (Zm (v := Value.pointer (some ⟨h, 0, none⟩)) rfl rfl ?_)))))))
   obtain ⟨ao, ai, m⟩ := ((hS).f1).arr_at c
   refine Za rfl rfl (Exec.index_slice S60 rfl m rfl (idx_some c).1 (idx_some c).2.1 ?_)
   obtain ⟨ap, ac, b⟩ := Zg b
   refine Za rfl rfl (Exec.store_arr (hS).f1 m A4 rfl rfl rfl rfl (encBool_val.2 rfl) ac ?_)
   intro aq u
   refine Za rfl rfl (Exec.nilCheck_ptr rfl rfl (Za rfl rfl (Zp F90_2 rfl rfl rfl (Za rfl rfl (Exec.store_box (ds := [Value.bool (true)]) (es := [a, d, Value.bool (true)]) (u).f1 A4 rfl rfl rfl rfl (Zj rfl one_nil) (Nat.le_of_ble_eq_true rfl) rfl ?_)))))
   intro ar x
   refine Zb (Ze ?_)
   have aj := Zu b
   subst k
   exact ⟨s, (Zv _), (((x).f2).f2).f2⟩
  refine W_cond_f rfl i ?_
  replace i := Zk i
  refine W_skip (Ze ?_)
  have ak := Zu b
  subst k
  exact ⟨s, (Zv _), (((hS).f2).f2).f2⟩
 intro am au t
 obtain ⟨q, n⟩ := k
 replace hm := un2_eq hm
 obtain ⟨ad, aa, y⟩ := t
 refine ?_
 have al := Zu hm
 subst r
 refine ⟨_, retG0 rfl, ?_⟩
 exact ⟨ad, aa, (((y).f2).f2).f2, rfl⟩
theorem F90_1 : tyField Try.prog 90 1 = some 1 := by kernel_rfl
theorem simplify_sets_mark_105_sim {w0 w : World} {s : PHeap} {H : List Res} {g : simplify_sets} {j : Int} {h : Nat} {d : Value} {a : Value} {r : Bool × (List Bool)} (hm : simplify_sets_mark_105_p g j = some r) (hS : St w0 s (Res.box h 90 [d, a, Value.bool (g.changed)] :: Res.arr encBool 4 d g.atoms :: Res.arr encBool 4 a g.fluents :: H) w)  :
  Calls Try.prog 105 #[Value.pointer (some ⟨h, 0, none⟩), a, Vi (j)] w fun e w' => ∃ v, e = .returned v ∧ ((un2 fun (ag : Bool) (z : (List Bool)) => ∃ (o : PHeap) , PHeap.le s o ∧ St w0 o (Res.box h 90 [d, a, Value.bool (ag)] :: Res.arr encBool 4 d g.atoms :: Res.arr encBool 4 a z :: H) w' ∧ v = Value.tuple #[]) r) := by
 unfold simplify_sets_mark_105_p at hm
 refine calls_of_W Try.func105 rfl rfl (Zc (Zd (Za rfl rfl (Zm (v := a) rfl rfl (Za rfl rfl (Zm (v := Vi (j)) rfl rfl ?_))))))
 obtain ⟨af, c, hm⟩ := Zg hm
 obtain ⟨an, ah, l⟩ := ((hS).f2).arr_at c
 refine Za rfl rfl (Exec.index_slice S60 rfl l rfl (idx_some c).1 (idx_some c).2.1 (Za rfl rfl (Exec.load_arr (F := encBool) ((hS).f2) l A4 rfl rfl rfl c (Sub.refl _) ?_)))
 intro ae ab
 obtain rfl : ae = Value.bool (af) := encBool_val.1 ab
 refine Za rfl rfl (Exec.not rfl rfl (Zb (Ze ?_)))
 obtain ⟨k, b, hm⟩ := Zg hm
 refine W_mid (M := fun f' w' => (un2 fun (q : Bool) (n : (List Bool)) => ∃ (p : PHeap) , PHeap.le s p ∧ St w0 p (Res.box h 90 [d, a, Value.bool (q)] :: Res.arr encBool 4 d g.atoms :: Res.arr encBool 4 a n :: H) w') k) ?_ ?_
 ·rcases ite_some b with ⟨i, b⟩ | ⟨i, b⟩
  ·refine W_cond_t rfl i (Zd (Za rfl rfl (Zm (v := a) rfl rfl (Za rfl rfl (Zm (v := Vi (j)) rfl rfl (Za rfl rfl (Zm (v := Value.pointer (some ⟨h, 0, none⟩)) rfl rfl ?_)))))))
   obtain ⟨ao, ai, m⟩ := ((hS).f2).arr_at c
   refine Za rfl rfl (Exec.index_slice S60 rfl m rfl (idx_some c).1 (idx_some c).2.1 ?_)
   obtain ⟨ap, ac, b⟩ := Zg b
   refine Za rfl rfl (Exec.store_arr (hS).f2 m A4 rfl rfl rfl rfl (encBool_val.2 rfl) ac ?_)
   intro aq u
   refine Za rfl rfl (Exec.nilCheck_ptr rfl rfl (Za rfl rfl (Zp F90_2 rfl rfl rfl (Za rfl rfl (Exec.store_box (ds := [Value.bool (true)]) (es := [d, a, Value.bool (true)]) (u).f1 A4 rfl rfl rfl rfl (Zj rfl one_nil) (Nat.le_of_ble_eq_true rfl) rfl ?_)))))
   intro ar x
   refine Zb (Ze ?_)
   have aj := Zu b
   subst k
   exact ⟨s, (Zv _), (((x).f1).f2).f2⟩
  refine W_cond_f rfl i ?_
  replace i := Zk i
  refine W_skip (Ze ?_)
  have ak := Zu b
  subst k
  exact ⟨s, (Zv _), (((hS).f2).f2).f2⟩
 intro am au t
 obtain ⟨q, n⟩ := k
 replace hm := un2_eq hm
 obtain ⟨ad, aa, y⟩ := t
 refine ?_
 have al := Zu hm
 subst r
 refine ⟨_, retG0 rfl, ?_⟩
 exact ⟨ad, aa, (((y).f2).f2).f2, rfl⟩
theorem Z82 : tyZero Try.prog 82 = some (Value.agg #[Value.string ⟨#[]⟩, Vi (0), Value.slice none 0 0]) := by kernel_rfl
theorem simplify_sets_expr_step {fu : Nat} (ih : ∀ {w0 w : World} {s : PHeap} {H : List Res} {c : simplify_sets} {b : GExpr} {a : Nat} {d : Value} {g : Value} {j : Value} {r : Bool × (List Bool)} (hm : simplify_sets_expr_p fu c b = some r) (hS : St w0 s (Res.box a 90 [d, g, Value.bool (c.changed)] :: Res.arr encBool 4 d c.atoms :: Res.arr encBool 4 g c.fluents :: H) w) (p : SliceRep encGExpr s j b.Kids), Calls Try.prog 106 #[Value.pointer (some ⟨a, 0, none⟩), Value.agg #[Value.string (b.Op), Vi (b.N), j]] w fun e w' => ∃ v, e = .returned v ∧ ((un2 fun (aa : Bool) (u : (List Bool)) => ∃ (o : PHeap) , PHeap.le s o ∧ St w0 o (Res.box a 90 [d, g, Value.bool (aa)] :: Res.arr encBool 4 d c.atoms :: Res.arr encBool 4 g u :: H) w' ∧ v = Value.tuple #[]) r)) {w0 w : World} {s : PHeap} {H : List Res} {c : simplify_sets} {b : GExpr} {a : Nat} {d : Value} {g : Value} {j : Value} {r : Bool × (List Bool)} (hm : simplify_sets_expr_p (fu + 1) c b = some r) (hS : St w0 s (Res.box a 90 [d, g, Value.bool (c.changed)] :: Res.arr encBool 4 d c.atoms :: Res.arr encBool 4 g c.fluents :: H) w) (p : SliceRep encGExpr s j b.Kids) :
  Calls Try.prog 106 #[Value.pointer (some ⟨a, 0, none⟩), Value.agg #[Value.string (b.Op), Vi (b.N), j]] w fun e w' => ∃ v, e = .returned v ∧ ((un2 fun (aa : Bool) (u : (List Bool)) => ∃ (o : PHeap) , PHeap.le s o ∧ St w0 o (Res.box a 90 [d, g, Value.bool (aa)] :: Res.arr encBool 4 d c.atoms :: Res.arr encBool 4 g u :: H) w' ∧ v = Value.tuple #[]) r) := by
 rw [simplify_sets_expr_p] at hm
 refine calls_of_W Try.func106 rfl rfl (Zc (Zd (Za rfl rfl (Exec.box (cs := [Value.string (b.Op), Vi (b.N), j]) hS rfl rfl rfl ?_))))
 intro ac bd m
 refine Zb (Ze (Zc (Zc (Zd (Za rfl rfl (Zp F82_0 rfl rfl rfl (Za rfl rfl (Zn (m) A9 rfl rfl rfl (Za rfl rfl (Exec.str_eql rfl rfl rfl (Zb (Ze ?_))))))))))))
 obtain ⟨t, i, hm⟩ := Zg hm
 refine W_mid (M := fun f' w' => (un2 fun (ap : Bool) (ag : (List Bool)) => ∃ (am : PHeap) , PHeap.le s am ∧ St w0 am (Res.box a 90 [d, g, Value.bool (ap)] :: Res.arr encBool 4 d c.atoms :: Res.arr encBool 4 g ag :: Res.box ac 82 [Value.string (b.Op), Vi (b.N), j] :: H) w' ∧ f' 0 = Value.pointer (some ⟨a, 0, none⟩) ∧ f' 3 = Value.pointer (some ⟨ac, 0, none⟩)) t) ?_ ?_
 ·rcases ite_some i with ⟨n, i⟩ | ⟨n, i⟩
  ·refine W_cond_t rfl n (W_dl (n0 := 8) (qs 0 7 (.e 7 [] .done)) hmix (by kernel_rfl) (by kernel_rfl) (DL_q rfl rfl (Zm (v := Value.pointer (some ⟨a, 0, none⟩)) rfl rfl ⟨rfl, ?_⟩)))
   refine DL_q rfl rfl (Zm (v := Value.pointer (some ⟨a, 0, none⟩)) rfl rfl ⟨rfl, ?_⟩)
   refine DL_q rfl rfl (Exec.nilCheck_ptr rfl rfl ⟨rfl, ?_⟩)
   refine DL_q rfl rfl (Zp F90_1 rfl rfl rfl ⟨rfl, ?_⟩)
   refine DL_q rfl rfl (Zn ((m.drew).f1) A60 rfl rfl rfl ⟨rfl, ?_⟩)
   refine DL_q rfl rfl (Zp F82_1 rfl rfl rfl ⟨rfl, ?_⟩)
   refine DL_q rfl rfl (Zn (m.drew) A3 rfl rfl rfl ⟨rfl, ?_⟩)
   obtain ⟨aI, aA, i⟩ := Zg i
   obtain ⟨bl, aW⟩ := aI
   replace i := un2_eq i
   refine DL_e rfl rfl (Tc rfl rfl rfl (Zi rfl (Zi rfl (Zi rfl args_nil))) (simplify_sets_mark_105_sim aA (((m.drew).f3).f3).f3 ).r ?_)
   rintro _ be ⟨aE, a4, ax, rfl⟩
   refine ⟨ag_nil, ?_⟩
   refine DL_done (Zb (Ze ?_))
   have aP := Zu i
   subst t
   exact ⟨aE, a4, ((((ax).f3).f3).f3).f3, rfl, rfl⟩
  refine W_cond_f rfl n ?_
  replace n := Zk n
  refine W_skip (Ze ?_)
  have aQ := Zu i
  subst t
  exact ⟨s, (Zv _), (((m).f3).f3).f3, rfl, rfl⟩
 intro aT bf aw
 obtain ⟨ap, ag⟩ := t
 replace hm := un2_eq hm
 obtain ⟨an, q, ad, a7, a8⟩ := aw
 refine (Ze (Zc (Zd (Za rfl rfl (Zp F82_2 rfl a8 rfl (Za rfl rfl (Zn ((ad).f3) A80 rfl rfl rfl (Za rfl rfl (Zr S80 rfl rfl (p.mono q) (Za rfl rfl (Zm (v := Vi (0)) rfl rfl (Zb (Ze ?_)))))))))))))
 obtain ⟨aJ, ar, hm⟩ := Zg hm
 refine W_block (W_forS (fun k' s' f' w' => (un2 fun (ab : Bool) (x : (List Bool)) => ∃ (ao : PHeap) , PHeap.le an ao ∧ St w0 ao (Res.box a 90 [d, g, Value.bool (ab)] :: Res.arr encBool 4 d c.atoms :: Res.arr encBool 4 g x :: H) w' ∧ f' 0 = Value.pointer (some ⟨a, 0, none⟩) ∧ f' 18 = j ∧ f' 19 = Vi ((b.Kids.length : Int)) ∧ f' 20 = Vi (k' : Int)) s') ar ?_ ?_ ?_)
 ·have ay := ((ad).f3).drop
  exact ⟨an, (Zv _), (((ay).f2).f2).f2, a7, rfl, rfl, rfl⟩
 ·intro a3 aK aF aU bg a2 au h
  obtain ⟨ab, x⟩ := aK
  replace h := un2_eq h
  obtain ⟨bb, ah, ae, ai, aj, ak, z⟩ := au
  refine Zc (Zd (Za rfl rfl (Zq rfl z ak (Zb (Ze (Zc (W_true (Zx (decide_eq_true (by omega))) (W_skip (Ze (Zc (W_block (Zc (Zd ?_)))))))))))))
  obtain ⟨l, aB, h⟩ := Zg h
  refine Za rfl rfl (Exec.index_rep S80 rfl aj z (p.mono (Zt q ah)) aB ?_)
  intro aN aY aq
  refine Za rfl rfl (Zw (E := encGExpr) ae A82 rfl rfl rfl aq ?_)
  intro bc aC
  obtain ⟨y, rfl, al⟩ := encGExpr_val.1 aC
  refine Za rfl rfl (Exec.alloc (cs := [Value.string (⟨#[]⟩), Vi (0), Value.slice none 0 0]) ae Z82 rfl rfl ?_)
  intro aO bh az
  refine Za rfl rfl (Exec.store_box (ds := [Value.string (l.Op), Vi (l.N), y]) (es := [Value.string (l.Op), Vi (l.N), y]) az A82 rfl rfl rfl rfl (Zj rfl (Zj rfl (Zj (al).one one_nil))) (Nat.le_of_ble_eq_true rfl) rfl ?_)
  intro bi af
  refine Zb (Ze (Zd (Za rfl rfl (Zm (v := Value.pointer (some ⟨a, 0, none⟩)) rfl ai (Za rfl rfl (Exec.load_box_agg (ds := [Value.string (l.Op), Vi (l.N), y]) (af) A82 rfl rfl rfl ?_))))))
  obtain ⟨aL, aD, h⟩ := Zg h
  obtain ⟨bm, aX⟩ := aL
  replace h := un2_eq h
  refine Za rfl rfl (Tc rfl rfl rfl (Zi rfl (Zi rfl args_nil)) (ih aD (((af).f3).f3).f3 al).r ?_)
  rintro _ bj ⟨aG, a5, a0, rfl⟩
  refine Zb (ib_normal (Ze (Zd (Za rfl rfl (Exec.add rfl z rfl (Za rfl rfl (Zm (v := Vi (IntKind.i64.wrap ((a3 : Int) + 1))) rfl rfl (Zb (Ze ?_)))))))))
  have aR := Zu h
  subst aF
  exact ⟨aG, (Zt ah a5), (((((a0).f3).drop).f2).f2).f2, ai, aj, ak, (Eq.trans rfl (wrap_up a2 (SliceRep.le (p.mono q))))⟩
 intro aV bk av
 obtain ⟨ab, x⟩ := aJ
 replace hm := un2_eq hm
 obtain ⟨aH, a6, a1, aZ, ba, a9, aM⟩ := av
 refine Zc (Zd (Za rfl rfl (Zq rfl aM a9 (Zb (Ze (Zc (W_false (Zx (decide_eq_false (by omega))) (W_exit (at_exit (at_exit (ib_here ?_)))))))))))
 have aS := Zu hm
 subst r
 refine ⟨_, retG0 rfl, ?_⟩
 exact ⟨aH, (Zt q a6), (((a1).f2).f2).f2, rfl⟩
theorem simplify_sets_expr_sim {fu : Nat} : ∀ {w0 w : World} {s : PHeap} {H : List Res} {a : simplify_sets} {b : GExpr} {f : Nat} {c : Value} {d : Value} {h : Value} {r : Bool × (List Bool)} (hm : simplify_sets_expr_p fu a b = some r) (hS : St w0 s (Res.box f 90 [c, d, Value.bool (a.changed)] :: Res.arr encBool 4 c a.atoms :: Res.arr encBool 4 d a.fluents :: H) w) (k : SliceRep encGExpr s h b.Kids), Calls Try.prog 106 #[Value.pointer (some ⟨f, 0, none⟩), Value.agg #[Value.string (b.Op), Vi (b.N), h]] w fun e w' => ∃ v, e = .returned v ∧ ((un2 fun (j : Bool) (i : (List Bool)) => ∃ (g : PHeap) , PHeap.le s g ∧ St w0 g (Res.box f 90 [c, d, Value.bool (j)] :: Res.arr encBool 4 c a.atoms :: Res.arr encBool 4 d i :: H) w' ∧ v = Value.tuple #[]) r) := by
 induction fu with
 | zero => intros; rename_i hm _ _; rw [simplify_sets_expr_p] at hm; cases hm
 | succ fu ih => exact simplify_sets_expr_step ih
theorem simplify_sets_cond_sim {w0 w : World} {s : PHeap} {H : List Res} {fu : Nat} {m : simplify_sets} {j : Cond} {a : Nat} {d : Value} {g : Value} {n : Value} {o : Value} {p : Value} {r : Bool × (List Bool) × (List Bool)} (hm : simplify_sets_cond_p fu m j = some r) (hS : St w0 s (Res.box a 90 [d, g, Value.bool (m.changed)] :: Res.arr encBool 4 d m.atoms :: Res.arr encBool 4 g m.fluents :: H) w) (x : SliceRep (encInt .i64) s n j.Pos) (y : SliceRep (encInt .i64) s o j.Neg) (z : SliceRep encGTest s p j.Tests) :
  Calls Try.prog 77 #[Value.pointer (some ⟨a, 0, none⟩), Value.agg #[n, o, p]] w fun e w' => ∃ v, e = .returned v ∧ ((un3 fun (bR : Bool) (bi : (List Bool)) (bj : (List Bool)) => ∃ (aA : PHeap) , PHeap.le s aA ∧ St w0 aA (Res.box a 90 [d, g, Value.bool (bR)] :: Res.arr encBool 4 d bi :: Res.arr encBool 4 g bj :: H) w' ∧ v = Value.tuple #[]) r) := by
 unfold simplify_sets_cond_p at hm
 refine calls_of_W Try.func77 rfl rfl (Zc (Zd (Za rfl rfl (Exec.box (cs := [n, o, p]) hS rfl rfl rfl ?_))))
 intro q cz ap
 refine Zb (Ze (Zc (Zc (Zd (Za rfl rfl (Zp F47_0 rfl rfl rfl (Za rfl rfl (Zn (ap) A24 rfl rfl rfl (Za rfl rfl (Zr S24 rfl rfl x (Za rfl rfl (Zm (v := Vi (0)) rfl rfl (Zb (Ze ?_))))))))))))))
 obtain ⟨bE, aL, hm⟩ := Zg hm
 refine W_block (W_forS (fun k' s' f' w' => (un2 fun (am : Bool) (ac : (List Bool)) => ∃ (aB : PHeap) , PHeap.le s aB ∧ St w0 aB (Res.box a 90 [d, g, Value.bool (am)] :: Res.arr encBool 4 d ac :: Res.arr encBool 4 g m.fluents :: Res.box q 47 [n, o, p] :: H) w' ∧ f' 0 = Value.pointer (some ⟨a, 0, none⟩) ∧ f' 3 = Value.pointer (some ⟨q, 0, none⟩) ∧ f' 11 = n ∧ f' 12 = Vi ((j.Pos.length : Int)) ∧ f' 13 = Vi (k' : Int)) s') aL ?_ ?_ ?_)
 ·have aU := (ap).f3
  exact ⟨s, (Zv _), ((aU).f3).f3, rfl, rfl, rfl, rfl, rfl⟩
 ·intro bf bF b7 ca c0 bc aO h
  obtain ⟨am, ac⟩ := bF
  replace h := un2_eq h
  obtain ⟨cr, ax, aa, ae, bo, a1, a2, aj⟩ := aO
  refine Zc (Zd (Za rfl rfl (Zq rfl aj a2 (Zb (Ze (Zc (W_true (Zx (decide_eq_true (by omega))) (W_skip (Ze (Zc (W_block (Zc (Zd ?_)))))))))))))
  obtain ⟨aG, bw, h⟩ := Zg h
  refine Za rfl rfl (Exec.index_rep S24 rfl a1 aj (x.mono ax) bw ?_)
  intro bS ck aI
  refine Za rfl rfl (Zw (E := (encInt .i64)) aa A3 rfl rfl rfl aI ?_)
  intro cw bx
  obtain rfl := encInt_val.1 bx
  refine Za rfl rfl (Zo (v := Vi (aG)) rfl rfl (Zb (Ze (Zd (Za rfl rfl (Zm (v := Value.pointer (some ⟨a, 0, none⟩)) rfl ae (Za rfl rfl (Zm (v := Value.pointer (some ⟨a, 0, none⟩)) rfl ae (Za rfl rfl (Exec.nilCheck_ptr rfl rfl (Za rfl rfl (Zp F90_0 rfl rfl rfl (Za rfl rfl (Zn (aa) A60 rfl rfl rfl (Za rfl rfl (Zm (v := Vi (aG)) rfl rfl ?_))))))))))))))))
  obtain ⟨bG, bz, h⟩ := Zg h
  obtain ⟨cC, cg⟩ := bG
  replace h := un2_eq h
  refine Za rfl rfl (Tc rfl rfl rfl (Zi rfl (Zi rfl (Zi rfl args_nil))) (simplify_sets_mark_sim bz (((aa).f2).f2).f2 ).r ?_)
  rintro _ c1 ⟨b8, bk, aV, rfl⟩
  refine Zb (ib_normal (Ze (Zd (Za rfl rfl (Exec.add rfl aj rfl (Za rfl rfl (Zm (v := Vi (IntKind.i64.wrap ((bf : Int) + 1))) rfl rfl (Zb (Ze ?_)))))))))
  have bW := Zu h
  subst b7
  exact ⟨b8, (Zt ax bk), ((((aV).f3).f3).f3).f3, ae, bo, a1, a2, (Eq.trans rfl (wrap_up bc (SliceRep.le x)))⟩
 intro cb c2 aP
 obtain ⟨am, ac⟩ := bE
 replace hm := un2_eq hm
 obtain ⟨aC, l, aq, bp, a3, cn, bq, bO⟩ := aP
 refine Zc (Zd (Za rfl rfl (Zq rfl bO bq (Zb (Ze (Zc (W_false (Zx (decide_eq_false (by omega))) (W_exit (at_exit (at_exit (ib_here (Ze (Zc (Zc (Zd (Za rfl rfl (Zp F47_1 rfl a3 rfl (Za rfl rfl (Zn ((aq).f3) A24 rfl rfl rfl (Za rfl rfl (Zr S24 rfl rfl (y.mono l) (Za rfl rfl (Zm (v := Vi (0)) rfl rfl (Zb (Ze ?_)))))))))))))))))))))))))
 obtain ⟨bH, aM, hm⟩ := Zg hm
 refine W_block (W_forS (fun k' s' f' w' => (un2 fun (an : Bool) (t : (List Bool)) => ∃ (aD : PHeap) , PHeap.le aC aD ∧ St w0 aD (Res.box a 90 [d, g, Value.bool (an)] :: Res.arr encBool 4 d t :: Res.arr encBool 4 g m.fluents :: Res.box q 47 [n, o, p] :: H) w' ∧ f' 0 = Value.pointer (some ⟨a, 0, none⟩) ∧ f' 3 = Value.pointer (some ⟨q, 0, none⟩) ∧ f' 26 = o ∧ f' 27 = Vi ((j.Neg.length : Int)) ∧ f' 28 = Vi (k' : Int)) s') aM ?_ ?_ ?_)
 ·have aW := (aq).f3
  exact ⟨aC, (Zv _), (((aW).f3).f3).f3, bp, a3, rfl, rfl, rfl⟩
 ·intro bg bI b9 cc c3 bd aQ i
  obtain ⟨an, t⟩ := bI
  replace i := un2_eq i
  obtain ⟨ct, ay, ab, af, br, a4, a5, ak⟩ := aQ
  refine Zc (Zd (Za rfl rfl (Zq rfl ak a5 (Zb (Ze (Zc (W_true (Zx (decide_eq_true (by omega))) (W_skip (Ze (Zc (W_block (Zc (Zd ?_)))))))))))))
  obtain ⟨aH, b0, i⟩ := Zg i
  refine Za rfl rfl (Exec.index_rep S24 rfl a4 ak (y.mono (Zt l ay)) b0 ?_)
  intro bT cl aJ
  refine Za rfl rfl (Zw (E := (encInt .i64)) ab A3 rfl rfl rfl aJ ?_)
  intro cx b1
  obtain rfl := encInt_val.1 b1
  refine Za rfl rfl (Zo (v := Vi (aH)) rfl rfl (Zb (Ze (Zd (Za rfl rfl (Zm (v := Value.pointer (some ⟨a, 0, none⟩)) rfl af (Za rfl rfl (Zm (v := Value.pointer (some ⟨a, 0, none⟩)) rfl af (Za rfl rfl (Exec.nilCheck_ptr rfl rfl (Za rfl rfl (Zp F90_0 rfl rfl rfl (Za rfl rfl (Zn (ab) A60 rfl rfl rfl (Za rfl rfl (Zm (v := Vi (aH)) rfl rfl ?_))))))))))))))))
  obtain ⟨bJ, b2, i⟩ := Zg i
  obtain ⟨cD, ch⟩ := bJ
  replace i := un2_eq i
  refine Za rfl rfl (Tc rfl rfl rfl (Zi rfl (Zi rfl (Zi rfl args_nil))) (simplify_sets_mark_sim b2 (((ab).f2).f2).f2 ).r ?_)
  rintro _ c4 ⟨bA, bl, aX, rfl⟩
  refine Zb (ib_normal (Ze (Zd (Za rfl rfl (Exec.add rfl ak rfl (Za rfl rfl (Zm (v := Vi (IntKind.i64.wrap ((bg : Int) + 1))) rfl rfl (Zb (Ze ?_)))))))))
  have bX := Zu i
  subst b9
  exact ⟨bA, (Zt ay bl), ((((aX).f3).f3).f3).f3, af, br, a4, a5, (Eq.trans rfl (wrap_up bd (SliceRep.le (y.mono l))))⟩
 intro cd c5 aR
 obtain ⟨an, t⟩ := bH
 replace hm := un2_eq hm
 obtain ⟨aE, u, ar, bs, bt, co, bu, bP⟩ := aR
 refine Zc (Zd (Za rfl rfl (Zq rfl bP bu (Zb (Ze (Zc (W_false (Zx (decide_eq_false (by omega))) (W_exit (at_exit (at_exit (ib_here (Ze (Zc (Zd (Za rfl rfl (Zp F47_2 rfl bt rfl (Za rfl rfl (Zn ((ar).f3) A45 rfl rfl rfl (Za rfl rfl (Zr S45 rfl rfl (z.mono (Zt l u)) (Za rfl rfl (Zm (v := Vi (0)) rfl rfl (Zb (Ze ?_))))))))))))))))))))))))
 obtain ⟨bK, aN, hm⟩ := Zg hm
 refine W_block (W_forS (fun k' s' f' w' => (un2 fun (ao : Bool) (ad : (List Bool)) => ∃ (aF : PHeap) , PHeap.le aE aF ∧ St w0 aF (Res.box a 90 [d, g, Value.bool (ao)] :: Res.arr encBool 4 d t :: Res.arr encBool 4 g ad :: H) w' ∧ f' 0 = Value.pointer (some ⟨a, 0, none⟩) ∧ f' 41 = p ∧ f' 42 = Vi ((j.Tests.length : Int)) ∧ f' 43 = Vi (k' : Int)) s') aN ?_ ?_ ?_)
 ·have aY := ((ar).f3).drop
  exact ⟨aE, (Zv _), (((aY).f2).f2).f2, bs, rfl, rfl, rfl⟩
 ·intro bh bL bB ce c6 be aS c
  obtain ⟨ao, ad⟩ := bL
  replace c := un2_eq c
  obtain ⟨cu, az, au, ag, a6, a7, al⟩ := aS
  refine Zc (Zd (Za rfl rfl (Zq rfl al a7 (Zb (Ze (Zc (W_true (Zx (decide_eq_true (by omega))) (W_skip (Ze (Zc (W_block (Zc (Zd ?_)))))))))))))
  obtain ⟨b, b3, c⟩ := Zg c
  refine Za rfl rfl (Exec.index_rep S45 rfl a6 al (z.mono (Zt (Zt l u) az)) b3 ?_)
  intro bU cm aK
  refine Za rfl rfl (Zw (E := encGTest) au A129 rfl rfl rfl aK ?_)
  intro cy b4
  obtain ⟨ah, ai, rfl, a8, a9⟩ := encGTest_val.1 b4
  refine Za rfl rfl (Exec.alloc (cs := [Value.string (⟨#[]⟩), Value.string (⟨#[]⟩), Vi (0), Value.slice none 0 0, Value.string (⟨#[]⟩), Vi (0), Value.slice none 0 0]) au Z129 rfl rfl ?_)
  intro bV c7 aZ
  refine Za rfl rfl (Exec.store_box (ds := [Value.string (b.Op), Value.string (b.A.Op), Vi (b.A.N), ah, Value.string (b.B.Op), Vi (b.B.N), ai]) (es := [Value.string (b.Op), Value.string (b.A.Op), Vi (b.A.N), ah, Value.string (b.B.Op), Vi (b.B.N), ai]) aZ A129 rfl rfl rfl rfl (Zj rfl (Zj rfl (Zj rfl (Zj (a8).one (Zj rfl (Zj rfl (Zj (a9).one one_nil))))))) (Nat.le_of_ble_eq_true rfl) rfl ?_)
  intro c8 av
  refine Zb (Ze (Zc (Zd (Za rfl rfl (Zm (v := Value.pointer (some ⟨a, 0, none⟩)) rfl ag (Za rfl rfl (Zp F129_1 rfl rfl rfl (Za rfl rfl (Exec.load_box_agg (ds := [Value.string (b.A.Op), Vi (b.A.N), ah]) (av) A82 rfl rfl rfl ?_)))))))))
  obtain ⟨bM, b5, c⟩ := Zg c
  obtain ⟨cE, ci⟩ := bM
  replace c := un2_eq c
  refine Za rfl rfl (Tc rfl rfl rfl (Zi rfl (Zi rfl args_nil)) (simplify_sets_expr_sim b5 (((av).f3).f3).f3 a8).r ?_)
  rintro _ c9 ⟨cv, a0, aw, rfl⟩
  refine Zb (Ze (Zd (Za rfl rfl (Zm (v := Value.pointer (some ⟨a, 0, none⟩)) rfl ag (Za rfl rfl (Zp F129_2 rfl rfl rfl (Za rfl rfl (Exec.load_box_agg (ds := [Value.string (b.B.Op), Vi (b.B.N), ai]) ((aw).f3) A82 rfl rfl rfl ?_))))))))
  obtain ⟨bN, b6, c⟩ := Zg c
  obtain ⟨cF, cj⟩ := bN
  replace c := un2_eq c
  refine Za rfl rfl (Tc rfl rfl rfl (Zi rfl (Zi rfl args_nil)) (simplify_sets_expr_sim b6 (((aw).f2).f2).f2 (a9.mono a0)).r ?_)
  rintro _ cA ⟨bC, bm, ba, rfl⟩
  refine Zb (ib_normal (Ze (Zd (Za rfl rfl (Exec.add rfl al rfl (Za rfl rfl (Zm (v := Vi (IntKind.i64.wrap ((bh : Int) + 1))) rfl rfl (Zb (Ze ?_)))))))))
  have bY := Zu c
  subst bB
  exact ⟨bC, (Zt (Zt az a0) bm), (((((ba).f3).drop).f2).f2).f2, ag, a6, a7, (Eq.trans rfl (wrap_up be (SliceRep.le (z.mono (Zt l u)))))⟩
 intro cf cB aT
 obtain ⟨ao, ad⟩ := bK
 replace hm := un2_eq hm
 obtain ⟨bD, bn, bb, cp, cq, bv, bQ⟩ := aT
 refine Zc (Zd (Za rfl rfl (Zq rfl bQ bv (Zb (Ze (Zc (W_false (Zx (decide_eq_false (by omega))) (W_exit (at_exit (at_exit (ib_here ?_)))))))))))
 have bZ := Zu hm
 subst r
 refine ⟨_, retG0 rfl, ?_⟩
 exact ⟨bD, (Zt (Zt l u) bn), (((bb).f2).f2).f2, rfl⟩
theorem A86 : tyAgg Try.prog 86 = some (false, 1) := by kernel_rfl
theorem N108 : (Try.f108.name == "runtime.NumGoroutine") = false := by kernel_rfl
theorem simplify_sets_touches_c1_sim {w0 w : World} {s : PHeap} {H : List Res} {a : GChange} {b : simplify_sets} {j : Value} {k : Value} {l : Value} {i : Nat} {d : Nat} {g : Value} {h : Value} {r : Bool} (hm : simplify_sets_touches_c1_p a b = some r) (hS : St w0 s (Res.box i 86 [Value.pointer (some ⟨d, 0, none⟩)] :: Res.box d 90 [g, h, Value.bool (b.changed)] :: Res.arr encBool 4 g b.atoms :: Res.arr encBool 4 h b.fluents :: H) w) (x : SliceRep (encInt .i64) s j a.When.Pos) (y : SliceRep (encInt .i64) s k a.When.Neg) (z : SliceRep encGTest s l a.When.Tests) :
  Calls Try.prog 108 #[Value.agg #[j, k, l, Vi (a.Atom), Value.bool (a.Add)], Value.pointer (some ⟨i, 0, none⟩)] w fun e w' => ∃ v, e = .returned v ∧ ((fun (u : Bool) => ∃ (n : PHeap) , PHeap.le s n ∧ St w0 n (Res.box i 86 [Value.pointer (some ⟨d, 0, none⟩)] :: Res.box d 90 [g, h, Value.bool (b.changed)] :: Res.arr encBool 4 g b.atoms :: Res.arr encBool 4 h b.fluents :: H) w' ∧ v = Value.bool (u)) r) := by
 unfold simplify_sets_touches_c1_p at hm
 refine calls_of_W Try.func108 rfl rfl (Zc (Zd (Za rfl rfl (Exec.box (cs := [j, k, l, Vi (a.Atom), Value.bool (a.Add)]) hS rfl rfl rfl ?_))))
 intro aa ae p
 refine Za rfl rfl (Zo (v := Value.bool (false)) rfl rfl (Zb (Ze (Zc (W_dl (n0 := 8) (qs 0 8 .done) hmix (by kernel_rfl) (by kernel_rfl) ?_)))))
 have c := p.drew
 refine DL_q rfl rfl (Zn ((c).f1) A86 rfl rfl rfl ⟨rfl, ?_⟩)
 refine DL_q rfl rfl (Exec.nilCheck_ptr rfl rfl ⟨rfl, ?_⟩)
 refine DL_q rfl rfl (Zp F90_0 rfl rfl rfl ⟨rfl, ?_⟩)
 refine DL_q rfl rfl (Zn ((c).f2) A60 rfl rfl rfl ⟨rfl, ?_⟩)
 refine DL_q rfl rfl (Zp F58_1 rfl rfl rfl ⟨rfl, ?_⟩)
 refine DL_q rfl rfl (Zn (c) A3 rfl rfl rfl ⟨rfl, ?_⟩)
 obtain ⟨o, f, hm⟩ := Zg hm
 obtain ⟨ad, ab, m⟩ := ((c).f3).arr_at f
 refine DL_q rfl rfl (Exec.index_slice S60 rfl m rfl (idx_some f).1 (idx_some f).2.1 ⟨rfl, ?_⟩)
 refine DL_q rfl rfl (Exec.load_arr (F := encBool) ((c).f3) m A4 rfl rfl rfl f (Sub.refl _) ?_)
 intro t q
 obtain rfl : t = Value.bool (o) := encBool_val.1 q
 refine ⟨rfl, ?_⟩
 refine DL_done (Za rfl rfl (Zo (v := Value.bool (o)) rfl rfl (Zb (Ze (W_ret ?_)))))
 have ac := Zu hm
 subst r
 refine ⟨_, ret1 rfl, ?_⟩
 exact ⟨s, (Zv _), (((((c).drop).f3).f3).f3).f3, rfl⟩
theorem api_GChange__f108_123_sim {w0 w : World} {s : PHeap} {H : List Res} {n : (List GChange)} {a : simplify_sets} {l : Value} {c : Nat} {d : Nat} {g : Value} {i : Value} {r : Int} (hm : api_GChange__f108_123_p n a = some r) (hS : St w0 s (Res.box c 86 [Value.pointer (some ⟨d, 0, none⟩)] :: Res.box d 90 [g, i, Value.bool (a.changed)] :: Res.arr encBool 4 g a.atoms :: Res.arr encBool 4 i a.fluents :: H) w) (o : SliceRep encGChange s l n) :
  Calls Try.prog 123 #[l, Value.func (.func 108) #[] #[Value.pointer (some ⟨c, 0, none⟩)]] w fun e w' => ∃ v, e = .returned v ∧ ((fun (aD : Int) => ∃ (af : PHeap) , PHeap.le s af ∧ St w0 af (Res.box c 86 [Value.pointer (some ⟨d, 0, none⟩)] :: Res.box d 90 [g, i, Value.bool (a.changed)] :: Res.arr encBool 4 g a.atoms :: Res.arr encBool 4 i a.fluents :: H) w' ∧ v = Vi (aD)) r) := by
 unfold api_GChange__f108_123_p at hm
 refine calls_of_W Try.func123 rfl rfl (Zc (Zd (Za rfl rfl (Zo (v := Vi (0)) rfl rfl (Zb (Ze (Zc (Zc (Zd (Za rfl rfl (Zm (v := l) rfl rfl (Za rfl rfl (Zr S48 rfl rfl o (Za rfl rfl (Zm (v := Vi (0)) rfl rfl (Zb (Ze ?_)))))))))))))))))
 obtain ⟨t, ak, ax, av, ar⟩ := ctl_some hm
 refine W_mid (M := fun f' w' => ∃ s', (t = .next s' ∨ t = .brk s') ∧ (fun (_ : Unit) => ∃ (ag : PHeap) , PHeap.le s ag ∧ St w0 ag (Res.box c 86 [Value.pointer (some ⟨d, 0, none⟩)] :: Res.box d 90 [g, i, Value.bool (a.changed)] :: Res.arr encBool 4 g a.atoms :: Res.arr encBool 4 i a.fluents :: H) w' ∧ f' 0 = l ∧ f' 1 = Value.func (.func 108) #[] #[Value.pointer (some ⟨c, 0, none⟩)] ∧ f' 7 = Vi ((n.length : Int))) s') ?_ ?_
 ·refine W_block (W_forC (fun k' s' f' w' => (fun (_ : Unit) => ∃ (ah : PHeap) , PHeap.le s ah ∧ St w0 ah (Res.box c 86 [Value.pointer (some ⟨d, 0, none⟩)] :: Res.box d 90 [g, i, Value.bool (a.changed)] :: Res.arr encBool 4 g a.atoms :: Res.arr encBool 4 i a.fluents :: H) w' ∧ f' 0 = l ∧ f' 1 = Value.func (.func 108) #[] #[Value.pointer (some ⟨c, 0, none⟩)] ∧ f' 7 = Vi ((n.length : Int)) ∧ f' 8 = Vi (k' : Int)) s') ak ?_ ?_ ?_)
  ·have ao := (hS).f3
   exact ⟨s, (Zv _), (((ao).f3).f3).f3, rfl, rfl, rfl, rfl⟩
  ·intro j aR u aJ aY au al b ay
   obtain ⟨aQ, p, x, ab, ac, ad, q⟩ := al
   refine Zc (Zd (Za rfl rfl (Zq rfl q ad (Zb (Ze (Zc (W_true (Zx (decide_eq_true (by omega))) (W_skip (Ze (Zc (W_block (Zc (Zd (Za rfl rfl (Zm (v := Vi ((j : Int))) rfl q (Za rfl rfl (Zo (v := Vi ((j : Int))) rfl rfl (Zb (Ze (Zc (Zd (Za rfl rfl (Zm (v := Value.func (.func 108) #[] #[Value.pointer (some ⟨c, 0, none⟩)]) rfl ac (Za rfl rfl (Zm (v := l) rfl ab (Za rfl rfl (Zm (v := Vi ((j : Int))) rfl rfl ?_)))))))))))))))))))))))))))
   obtain ⟨bc, a4, b⟩ := Zg b
   refine Za rfl rfl (Exec.index_rep S48 rfl rfl rfl (o.mono p) a4 ?_)
   intro aE aM aj
   refine Za rfl rfl (Zw (E := encGChange) x A58 rfl rfl rfl aj ?_)
   intro aX a5
   obtain ⟨aU, aV, aW, rfl, a7, a8, a9⟩ := encGChange_val.1 a5
   obtain ⟨bd, a6, b⟩ := Zg b
   refine Za rfl rfl (Exec.callc rfl rfl Try.func108 rfl N108 (Zi rfl args_nil) rfl ((simplify_sets_touches_c1_sim a6 ((((x).f3).f3).f3).f3 a7 a8 a9).mono ?_))
   rintro _ aZ ⟨_, rfl, ⟨ai, aa, y, rfl⟩⟩
   refine ⟨_, rfl, ?_⟩
   refine Zb (Ze ?_)
   rcases ite_some b with ⟨m, b⟩ | ⟨m, b⟩
   ·refine W_cond_t rfl m (Zc (Zd (Za rfl rfl (Zm (v := Vi ((j : Int))) rfl rfl (Za rfl rfl (Zo (v := Vi ((j : Int))) rfl rfl (Zb (Ze (W_ret (ib_ret (at_ret (at_ret (ib_ret (at_ret (at_ret ?_)))))))))))))))
    have aF := Zu b
    subst u
    have aw := ax _ (ay (by intro _ h; cases h))
    have aG := Zu aw
    subst r
    refine ⟨_, ret1 rfl, ?_⟩
    exact ⟨ai, (Zt p aa), ((((y).f3).f3).f3).f3, rfl⟩
   refine W_cond_f rfl m ?_
   replace m := Zk m
   refine W_skip (ib_normal (Ze (Zd (Za rfl rfl (Exec.add rfl q rfl (Za rfl rfl (Zm (v := Vi (IntKind.i64.wrap ((j : Int) + 1))) rfl rfl (Zb (Ze ?_)))))))))
   have aH := Zu b
   subst u
   refine ⟨_, rfl, ?_⟩; exact ⟨ai, (Zt p aa), ((((y).f3).f3).f3).f3, ab, ac, ad, (Eq.trans rfl (wrap_up au (SliceRep.le o)))⟩
  intro aS aK ba am az
  obtain ⟨aA, a0, ap, a2, a3, ae, aC⟩ := am
  refine Zc (Zd (Za rfl rfl (Zq rfl aC ae (Zb (Ze (Zc (W_false (Zx (decide_eq_false (by omega))) (W_exit (at_exit (at_exit (ib_here (Ze ?_))))))))))))
  refine ⟨_, .inl az, ?_⟩; exact ⟨aA, a0, ((((ap).f3).f3).f3).f3, a2, a3, ae⟩
 rintro aL bb ⟨aT, z, an⟩
 have hm := z.elim (av _) (ar _)
 clear z
 obtain ⟨aB, a1, aq, aN, aO, aP⟩ := an
 refine (Ze (Zc (Zd (Za rfl rfl (Zo (v := Vi ((-1))) rfl rfl (Zb (Ze (W_ret ?_))))))))
 have aI := Zu hm
 subst r
 refine ⟨_, ret1 rfl, ?_⟩
 exact ⟨aB, a1, ((((aq).f3).f3).f3).f3, rfl⟩
theorem api_GChange__f108_sim {w0 w : World} {s : PHeap} {H : List Res} {i : (List GChange)} {a : simplify_sets} {g : Value} {b : Nat} {c : Nat} {d : Value} {f : Value} {r : Bool} (hm : api_GChange__f108_p i a = some r) (hS : St w0 s (Res.box b 86 [Value.pointer (some ⟨c, 0, none⟩)] :: Res.box c 90 [d, f, Value.bool (a.changed)] :: Res.arr encBool 4 d a.atoms :: Res.arr encBool 4 f a.fluents :: H) w) (j : SliceRep encGChange s g i) :
  Calls Try.prog 107 #[g, Value.func (.func 108) #[] #[Value.pointer (some ⟨b, 0, none⟩)]] w fun e w' => ∃ v, e = .returned v ∧ ((fun (o : Bool) => ∃ (h : PHeap) , PHeap.le s h ∧ St w0 h (Res.box b 86 [Value.pointer (some ⟨c, 0, none⟩)] :: Res.box c 90 [d, f, Value.bool (a.changed)] :: Res.arr encBool 4 d a.atoms :: Res.arr encBool 4 f a.fluents :: H) w' ∧ v = Value.bool (o)) r) := by
 unfold api_GChange__f108_p at hm
 refine calls_of_W Try.func107 rfl rfl (Zc (Zd (Za rfl rfl (Zo (v := Value.bool (false)) rfl rfl (Zb (Ze (Zc (Zd (Za rfl rfl (Zm (v := g) rfl rfl (Za rfl rfl (Zm (v := Value.func (.func 108) #[] #[Value.pointer (some ⟨b, 0, none⟩)]) rfl rfl ?_))))))))))))
 obtain ⟨p, m, hm⟩ := Zg hm
 refine Za rfl rfl (Tc rfl rfl rfl (Zi rfl (Zi rfl args_nil)) (api_GChange__f108_123_sim m ((((hS).f3).f3).f3).f3 j).r ?_)
 rintro _ t ⟨n, l, k, rfl⟩
 refine Za rfl rfl (Exec.geq rfl rfl rfl (Za rfl rfl (Zo (v := Value.bool (decide (0 ≤ p))) rfl rfl (Zb (Ze (W_ret ?_))))))
 have q := Zu hm
 subst r
 refine ⟨_, ret1 rfl, ?_⟩
 exact ⟨n, l, ((((k).f3).f3).f3).f3, rfl⟩
theorem N110 : (Try.f110.name == "runtime.NumGoroutine") = false := by kernel_rfl
theorem simplify_sets_touches_c2_sim {w0 w : World} {s : PHeap} {H : List Res} {a : GAssign} {b : simplify_sets} {j : Value} {i : Nat} {d : Nat} {g : Value} {h : Value} {r : Bool} (hm : simplify_sets_touches_c2_p a b = some r) (hS : St w0 s (Res.box i 86 [Value.pointer (some ⟨d, 0, none⟩)] :: Res.box d 90 [g, h, Value.bool (b.changed)] :: Res.arr encBool 4 g b.atoms :: Res.arr encBool 4 h b.fluents :: H) w) (t : SliceRep encGExpr s j a.Value.Kids) :
  Calls Try.prog 110 #[Value.agg #[Vi (a.Fluent), Value.string (a.Value.Op), Vi (a.Value.N), j], Value.pointer (some ⟨i, 0, none⟩)] w fun e w' => ∃ v, e = .returned v ∧ ((fun (q : Bool) => ∃ (l : PHeap) , PHeap.le s l ∧ St w0 l (Res.box i 86 [Value.pointer (some ⟨d, 0, none⟩)] :: Res.box d 90 [g, h, Value.bool (b.changed)] :: Res.arr encBool 4 g b.atoms :: Res.arr encBool 4 h b.fluents :: H) w' ∧ v = Value.bool (q)) r) := by
 unfold simplify_sets_touches_c2_p at hm
 refine calls_of_W Try.func110 rfl rfl (Zc (Zd (Za rfl rfl (Exec.box (cs := [Vi (a.Fluent), Value.string (a.Value.Op), Vi (a.Value.N), j]) hS rfl rfl rfl ?_))))
 intro u aa n
 refine Za rfl rfl (Zo (v := Value.bool (false)) rfl rfl (Zb (Ze (Zc (W_dl (n0 := 8) (qs 0 8 .done) hmix (by kernel_rfl) (by kernel_rfl) ?_)))))
 have c := n.drew
 refine DL_q rfl rfl (Zn ((c).f1) A86 rfl rfl rfl ⟨rfl, ?_⟩)
 refine DL_q rfl rfl (Exec.nilCheck_ptr rfl rfl ⟨rfl, ?_⟩)
 refine DL_q rfl rfl (Zp F90_1 rfl rfl rfl ⟨rfl, ?_⟩)
 refine DL_q rfl rfl (Zn ((c).f2) A60 rfl rfl rfl ⟨rfl, ?_⟩)
 refine DL_q rfl rfl (Zp F84_0 rfl rfl rfl ⟨rfl, ?_⟩)
 refine DL_q rfl rfl (Zn (c) A3 rfl rfl rfl ⟨rfl, ?_⟩)
 obtain ⟨m, f, hm⟩ := Zg hm
 obtain ⟨z, x, k⟩ := ((c).f4).arr_at f
 refine DL_q rfl rfl (Exec.index_slice S60 rfl k rfl (idx_some f).1 (idx_some f).2.1 ⟨rfl, ?_⟩)
 refine DL_q rfl rfl (Exec.load_arr (F := encBool) ((c).f4) k A4 rfl rfl rfl f (Sub.refl _) ?_)
 intro p o
 obtain rfl : p = Value.bool (m) := encBool_val.1 o
 refine ⟨rfl, ?_⟩
 refine DL_done (Za rfl rfl (Zo (v := Value.bool (m)) rfl rfl (Zb (Ze (W_ret ?_)))))
 have y := Zu hm
 subst r
 refine ⟨_, ret1 rfl, ?_⟩
 exact ⟨s, (Zv _), (((((c).drop).f3).f3).f3).f3, rfl⟩
theorem api_GAssign__f110_124_sim {w0 w : World} {s : PHeap} {H : List Res} {n : (List GAssign)} {a : simplify_sets} {l : Value} {c : Nat} {d : Nat} {g : Value} {i : Value} {r : Int} (hm : api_GAssign__f110_124_p n a = some r) (hS : St w0 s (Res.box c 86 [Value.pointer (some ⟨d, 0, none⟩)] :: Res.box d 90 [g, i, Value.bool (a.changed)] :: Res.arr encBool 4 g a.atoms :: Res.arr encBool 4 i a.fluents :: H) w) (o : SliceRep encGAssign s l n) :
  Calls Try.prog 124 #[l, Value.func (.func 110) #[] #[Value.pointer (some ⟨c, 0, none⟩)]] w fun e w' => ∃ v, e = .returned v ∧ ((fun (aB : Int) => ∃ (af : PHeap) , PHeap.le s af ∧ St w0 af (Res.box c 86 [Value.pointer (some ⟨d, 0, none⟩)] :: Res.box d 90 [g, i, Value.bool (a.changed)] :: Res.arr encBool 4 g a.atoms :: Res.arr encBool 4 i a.fluents :: H) w' ∧ v = Vi (aB)) r) := by
 unfold api_GAssign__f110_124_p at hm
 refine calls_of_W Try.func124 rfl rfl (Zc (Zd (Za rfl rfl (Zo (v := Vi (0)) rfl rfl (Zb (Ze (Zc (Zc (Zd (Za rfl rfl (Zm (v := l) rfl rfl (Za rfl rfl (Zr S49 rfl rfl o (Za rfl rfl (Zm (v := Vi (0)) rfl rfl (Zb (Ze ?_)))))))))))))))))
 obtain ⟨t, ak, ax, av, ar⟩ := ctl_some hm
 refine W_mid (M := fun f' w' => ∃ s', (t = .next s' ∨ t = .brk s') ∧ (fun (_ : Unit) => ∃ (ag : PHeap) , PHeap.le s ag ∧ St w0 ag (Res.box c 86 [Value.pointer (some ⟨d, 0, none⟩)] :: Res.box d 90 [g, i, Value.bool (a.changed)] :: Res.arr encBool 4 g a.atoms :: Res.arr encBool 4 i a.fluents :: H) w' ∧ f' 0 = l ∧ f' 1 = Value.func (.func 110) #[] #[Value.pointer (some ⟨c, 0, none⟩)] ∧ f' 7 = Vi ((n.length : Int))) s') ?_ ?_
 ·refine W_block (W_forC (fun k' s' f' w' => (fun (_ : Unit) => ∃ (ah : PHeap) , PHeap.le s ah ∧ St w0 ah (Res.box c 86 [Value.pointer (some ⟨d, 0, none⟩)] :: Res.box d 90 [g, i, Value.bool (a.changed)] :: Res.arr encBool 4 g a.atoms :: Res.arr encBool 4 i a.fluents :: H) w' ∧ f' 0 = l ∧ f' 1 = Value.func (.func 110) #[] #[Value.pointer (some ⟨c, 0, none⟩)] ∧ f' 7 = Vi ((n.length : Int)) ∧ f' 8 = Vi (k' : Int)) s') ak ?_ ?_ ?_)
  ·have ao := (hS).f3
   exact ⟨s, (Zv _), (((ao).f3).f3).f3, rfl, rfl, rfl, rfl⟩
  ·intro j aP u aH aU au al b ay
   obtain ⟨aO, p, x, ab, ac, ad, q⟩ := al
   refine Zc (Zd (Za rfl rfl (Zq rfl q ad (Zb (Ze (Zc (W_true (Zx (decide_eq_true (by omega))) (W_skip (Ze (Zc (W_block (Zc (Zd (Za rfl rfl (Zm (v := Vi ((j : Int))) rfl q (Za rfl rfl (Zo (v := Vi ((j : Int))) rfl rfl (Zb (Ze (Zc (Zd (Za rfl rfl (Zm (v := Value.func (.func 110) #[] #[Value.pointer (some ⟨c, 0, none⟩)]) rfl ac (Za rfl rfl (Zm (v := l) rfl ab (Za rfl rfl (Zm (v := Vi ((j : Int))) rfl rfl ?_)))))))))))))))))))))))))))
   obtain ⟨aY, a4, b⟩ := Zg b
   refine Za rfl rfl (Exec.index_rep S49 rfl rfl rfl (o.mono p) a4 ?_)
   intro aC aK aj
   refine Za rfl rfl (Zw (E := encGAssign) x A84 rfl rfl rfl aj ?_)
   intro aT a5
   obtain ⟨aS, rfl, a7⟩ := encGAssign_val.1 a5
   obtain ⟨aZ, a6, b⟩ := Zg b
   refine Za rfl rfl (Exec.callc rfl rfl Try.func110 rfl N110 (Zi rfl args_nil) rfl ((simplify_sets_touches_c2_sim a6 ((((x).f3).f3).f3).f3 a7).mono ?_))
   rintro _ aV ⟨_, rfl, ⟨ai, aa, y, rfl⟩⟩
   refine ⟨_, rfl, ?_⟩
   refine Zb (Ze ?_)
   rcases ite_some b with ⟨m, b⟩ | ⟨m, b⟩
   ·refine W_cond_t rfl m (Zc (Zd (Za rfl rfl (Zm (v := Vi ((j : Int))) rfl rfl (Za rfl rfl (Zo (v := Vi ((j : Int))) rfl rfl (Zb (Ze (W_ret (ib_ret (at_ret (at_ret (ib_ret (at_ret (at_ret ?_)))))))))))))))
    have aD := Zu b
    subst u
    have aw := ax _ (ay (by intro _ h; cases h))
    have aE := Zu aw
    subst r
    refine ⟨_, ret1 rfl, ?_⟩
    exact ⟨ai, (Zt p aa), ((((y).f3).f3).f3).f3, rfl⟩
   refine W_cond_f rfl m ?_
   replace m := Zk m
   refine W_skip (ib_normal (Ze (Zd (Za rfl rfl (Exec.add rfl q rfl (Za rfl rfl (Zm (v := Vi (IntKind.i64.wrap ((j : Int) + 1))) rfl rfl (Zb (Ze ?_)))))))))
   have aF := Zu b
   subst u
   refine ⟨_, rfl, ?_⟩; exact ⟨ai, (Zt p aa), ((((y).f3).f3).f3).f3, ab, ac, ad, (Eq.trans rfl (wrap_up au (SliceRep.le o)))⟩
  intro aQ aI aW am az
  obtain ⟨a8, a0, ap, a2, a3, ae, aA⟩ := am
  refine Zc (Zd (Za rfl rfl (Zq rfl aA ae (Zb (Ze (Zc (W_false (Zx (decide_eq_false (by omega))) (W_exit (at_exit (at_exit (ib_here (Ze ?_))))))))))))
  refine ⟨_, .inl az, ?_⟩; exact ⟨a8, a0, ((((ap).f3).f3).f3).f3, a2, a3, ae⟩
 rintro aJ aX ⟨aR, z, an⟩
 have hm := z.elim (av _) (ar _)
 clear z
 obtain ⟨a9, a1, aq, aL, aM, aN⟩ := an
 refine (Ze (Zc (Zd (Za rfl rfl (Zo (v := Vi ((-1))) rfl rfl (Zb (Ze (W_ret ?_))))))))
 have aG := Zu hm
 subst r
 refine ⟨_, ret1 rfl, ?_⟩
 exact ⟨a9, a1, ((((aq).f3).f3).f3).f3, rfl⟩
theorem api_GAssign__f110_sim {w0 w : World} {s : PHeap} {H : List Res} {i : (List GAssign)} {a : simplify_sets} {g : Value} {b : Nat} {c : Nat} {d : Value} {f : Value} {r : Bool} (hm : api_GAssign__f110_p i a = some r) (hS : St w0 s (Res.box b 86 [Value.pointer (some ⟨c, 0, none⟩)] :: Res.box c 90 [d, f, Value.bool (a.changed)] :: Res.arr encBool 4 d a.atoms :: Res.arr encBool 4 f a.fluents :: H) w) (j : SliceRep encGAssign s g i) :
  Calls Try.prog 109 #[g, Value.func (.func 110) #[] #[Value.pointer (some ⟨b, 0, none⟩)]] w fun e w' => ∃ v, e = .returned v ∧ ((fun (o : Bool) => ∃ (h : PHeap) , PHeap.le s h ∧ St w0 h (Res.box b 86 [Value.pointer (some ⟨c, 0, none⟩)] :: Res.box c 90 [d, f, Value.bool (a.changed)] :: Res.arr encBool 4 d a.atoms :: Res.arr encBool 4 f a.fluents :: H) w' ∧ v = Value.bool (o)) r) := by
 unfold api_GAssign__f110_p at hm
 refine calls_of_W Try.func109 rfl rfl (Zc (Zd (Za rfl rfl (Zo (v := Value.bool (false)) rfl rfl (Zb (Ze (Zc (Zd (Za rfl rfl (Zm (v := g) rfl rfl (Za rfl rfl (Zm (v := Value.func (.func 110) #[] #[Value.pointer (some ⟨b, 0, none⟩)]) rfl rfl ?_))))))))))))
 obtain ⟨p, m, hm⟩ := Zg hm
 refine Za rfl rfl (Tc rfl rfl rfl (Zi rfl (Zi rfl args_nil)) (api_GAssign__f110_124_sim m ((((hS).f3).f3).f3).f3 j).r ?_)
 rintro _ t ⟨n, l, k, rfl⟩
 refine Za rfl rfl (Exec.geq rfl rfl rfl (Za rfl rfl (Zo (v := Value.bool (decide (0 ≤ p))) rfl rfl (Zb (Ze (W_ret ?_))))))
 have q := Zu hm
 subst r
 refine ⟨_, ret1 rfl, ?_⟩
 exact ⟨n, l, ((((k).f3).f3).f3).f3, rfl⟩
theorem simplify_sets_touches_sim {w0 w : World} {s : PHeap} {H : List Res} {b : simplify_sets} {a : GOp} {i : Nat} {g : Value} {h : Value} {m : Value} {n : Value} {o : Value} {p : Value} {q : Value} {r : Bool} (hm : simplify_sets_touches_p b a = some r) (hS : St w0 s (Res.box i 90 [g, h, Value.bool (b.changed)] :: Res.arr encBool 4 g b.atoms :: Res.arr encBool 4 h b.fluents :: H) w) (ao : SliceRep (encInt .i64) s m a.Pre.Pos) (ap : SliceRep (encInt .i64) s n a.Pre.Neg) (aq : SliceRep encGTest s o a.Pre.Tests) (y : SliceRep encGChange s p a.Changes) (z : SliceRep encGAssign s q a.Assigns) :
  Calls Try.prog 78 #[Value.pointer (some ⟨i, 0, none⟩), Value.agg #[Value.string (a.Name), Vi (a.Cost), m, n, o, p, q]] w fun e w' => ∃ v, e = .returned v ∧ ((fun (am : Bool) => ∃ (u : PHeap) , PHeap.le s u ∧ St w0 u (Res.box i 90 [g, h, Value.bool (b.changed)] :: Res.arr encBool 4 g b.atoms :: Res.arr encBool 4 h b.fluents :: H) w' ∧ v = Value.bool (am)) r) := by
 unfold simplify_sets_touches_p at hm
 refine calls_of_W Try.func78 rfl rfl (Zc (Zd (Za rfl rfl (Exec.box (cs := [Value.pointer (some ⟨i, 0, none⟩)]) hS rfl rfl rfl ?_))))
 intro ar az ab
 refine Za rfl rfl (Exec.box (cs := [Value.string (a.Name), Vi (a.Cost), m, n, o, p, q]) ab rfl rfl rfl ?_)
 intro au a0 t
 refine Za rfl rfl (Zo (v := Value.bool (false)) rfl rfl (Zb (Ze (Zc ?_))))
 obtain ⟨j, d, hm⟩ := Zg hm
 refine W_mid (M := fun f' w' => (fun (j : Bool) => ∃ (x : PHeap) , PHeap.le s x ∧ St w0 x (Res.box i 90 [g, h, Value.bool (b.changed)] :: Res.arr encBool 4 g b.atoms :: Res.arr encBool 4 h b.fluents :: H) w' ∧ f' 4 = Value.bool (j)) j) ?_ ?_
 ·refine Zd (Za rfl rfl (Zp F51_3 rfl rfl rfl (Za rfl rfl (Zn (t) A48 rfl rfl rfl (Za rfl rfl (Exec.makeFunc rfl (Zi rfl args_nil) ?_))))))
  obtain ⟨an, ah, d⟩ := Zg d
  refine Za rfl rfl (Tc rfl rfl rfl (Zi rfl (Zi rfl args_nil)) (api_GChange__f108_sim ah ((((t).f4).f4).f4).f4 y).r ?_)
  rintro _ a1 ⟨aj, l, k, rfl⟩
  refine Za rfl rfl (Zm (v := Value.bool (an)) rfl rfl ?_)
  rcases ite_some d with ⟨c, d⟩ | ⟨c, d⟩
  ·refine WL_passes 6 (by rw [c]; rfl) ?_
   refine Zb (Ze ?_)
   have av := Zu d
   subst j
   exact ⟨aj, l, ((((((k).drop).f3).drop).f2).f2).f2, rfl⟩
  replace c := Zk c
  refine WL_run rfl (Zf rfl (Zx c)) rfl (Zp F51_4 rfl rfl rfl (WL_run rfl (Zf rfl (Zx c)) rfl (Zn ((k).f4) A49 rfl rfl rfl (WL_run rfl (Zf rfl (Zx c)) rfl (Exec.makeFunc rfl (Zi rfl args_nil) ?_)))))
  obtain ⟨a4, ai, d⟩ := Zg d
  refine WL_run rfl (Zf rfl (Zx c)) rfl (Tc rfl rfl rfl (Zi rfl (Zi rfl args_nil)) (api_GAssign__f110_sim ai ((((k).f3).f3).f3).f3 (z.mono l)).r ?_)
  rintro _ a2 ⟨ak, ae, ac, rfl⟩
  refine WL_passes 2 (by rw [c]; rfl) ?_
  refine Zb (Ze ?_)
  have aw := Zu d
  subst j
  exact ⟨ak, (Zt l ae), ((((((ac).drop).f3).drop).f2).f2).f2, rfl⟩
 intro ay a3 aa
 obtain ⟨al, af, ad, ag⟩ := aa
 refine (Ze (W_ret ?_))
 have ax := Zu hm
 subst r
 refine ⟨_, ret1 rfl, ?_⟩
 exact ⟨al, af, (((ad).f2).f2).f2, ag⟩
theorem simplify_sets_operator_sim {w0 w : World} {s : PHeap} {H : List Res} {fu : Nat} {ad : simplify_sets} {a : GOp} {b : Nat} {g : Value} {h : Value} {o : Value} {p : Value} {q : Value} {n : Value} {t : Value} {r : Bool × (List Bool) × (List Bool)} (hm : simplify_sets_operator_p fu ad a = some r) (hS : St w0 s (Res.box b 90 [g, h, Value.bool (ad.changed)] :: Res.arr encBool 4 g ad.atoms :: Res.arr encBool 4 h ad.fluents :: H) w) (aP : SliceRep (encInt .i64) s o a.Pre.Pos) (aQ : SliceRep (encInt .i64) s p a.Pre.Neg) (aR : SliceRep encGTest s q a.Pre.Tests) (ah : SliceRep encGChange s n a.Changes) (ai : SliceRep encGAssign s t a.Assigns) :
  Calls Try.prog 79 #[Value.pointer (some ⟨b, 0, none⟩), Value.agg #[Value.string (a.Name), Vi (a.Cost), o, p, q, n, t]] w fun e w' => ∃ v, e = .returned v ∧ ((un3 fun (bU : Bool) (bn : (List Bool)) (bo : (List Bool)) => ∃ (aH : PHeap) , PHeap.le s aH ∧ St w0 aH (Res.box b 90 [g, h, Value.bool (bU)] :: Res.arr encBool 4 g bn :: Res.arr encBool 4 h bo :: H) w' ∧ v = Value.tuple #[]) r) := by
 unfold simplify_sets_operator_p at hm
 refine calls_of_W Try.func79 rfl rfl (Zc (Zd (Za rfl rfl (Exec.box (cs := [Value.string (a.Name), Vi (a.Cost), o, p, q, n, t]) hS rfl rfl rfl ?_))))
 intro x c1 ay
 refine Zb (Ze (Zc (Zd (Za rfl rfl (Zm (v := Value.pointer (some ⟨b, 0, none⟩)) rfl rfl (Za rfl rfl (Zp F51_2 rfl rfl rfl (Za rfl rfl (Exec.load_box_agg (ds := [o, p, q]) (ay) A47 rfl rfl rfl ?_)))))))))
 obtain ⟨bI, b3, hm⟩ := Zg hm
 obtain ⟨cF, cl, cm⟩ := bI
 replace hm := un3_eq hm
 refine Za rfl rfl (Tc rfl rfl rfl (Zi rfl (Zi rfl args_nil)) (simplify_sets_cond_sim b3 (((ay).f3).f3).f3 aP aQ aR).r ?_)
 rintro _ c2 ⟨aI, m, az, rfl⟩
 refine Zb (Ze (Zc (Zc (Zd (Za rfl rfl (Zp F51_3 rfl rfl rfl (Za rfl rfl (Zn ((az).f3) A48 rfl rfl rfl (Za rfl rfl (Zr S48 rfl rfl (ah.mono m) (Za rfl rfl (Zm (v := Vi (0)) rfl rfl (Zb (Ze ?_))))))))))))))
 obtain ⟨bJ, aU, hm⟩ := Zg hm
 refine W_block (W_forS (fun k' s' f' w' => (un3 fun (av : Bool) (y : (List Bool)) (ak : (List Bool)) => ∃ (aJ : PHeap) , PHeap.le aI aJ ∧ St w0 aJ (Res.box b 90 [g, h, Value.bool (av)] :: Res.arr encBool 4 g y :: Res.arr encBool 4 h ak :: Res.box x 51 [Value.string (a.Name), Vi (a.Cost), o, p, q, n, t] :: H) w' ∧ f' 0 = Value.pointer (some ⟨b, 0, none⟩) ∧ f' 3 = Value.pointer (some ⟨x, 0, none⟩) ∧ f' 13 = n ∧ f' 14 = Vi ((a.Changes.length : Int)) ∧ f' 15 = Vi (k' : Int)) s') aU ?_ ?_ ?_)
 ·have bb := (az).f3
  exact ⟨aI, (Zv _), (((bb).f3).f3).f3, rfl, rfl, rfl, rfl, rfl⟩
 ·intro a4 bK bC cf c3 bk aW d
  obtain ⟨av, y, ak⟩ := bK
  replace d := un3_eq d
  obtain ⟨aK, a5, a0, aa, aA, am, an, af⟩ := aW
  refine Zc (Zd (Za rfl rfl (Zq rfl af an (Zb (Ze (Zc (W_true (Zx (decide_eq_true (by omega))) (W_skip (Ze (Zc (W_block (Zc (Zd ?_)))))))))))))
  obtain ⟨ag, b4, d⟩ := Zg d
  refine Za rfl rfl (Exec.index_rep S48 rfl am af (ah.mono (Zt m a5)) b4 ?_)
  intro bV cr aS
  refine Za rfl rfl (Zw (E := encGChange) a0 A58 rfl rfl rfl aS ?_)
  intro cz b5
  obtain ⟨ao, ap, aq, rfl, aD, aE, aF⟩ := encGChange_val.1 b5
  refine Za rfl rfl (Exec.alloc (cs := [Value.slice none 0 0, Value.slice none 0 0, Value.slice none 0 0, Vi (0), Value.bool (false)]) a0 Z58 rfl rfl ?_)
  intro bW c4 bc
  refine Za rfl rfl (Exec.store_box (ds := [ao, ap, aq, Vi (ag.Atom), Value.bool (ag.Add)]) (es := [ao, ap, aq, Vi (ag.Atom), Value.bool (ag.Add)]) bc A58 rfl rfl rfl rfl (Zj (aD).one (Zj (aE).one (Zj (aF).one (Zj rfl (Zj rfl one_nil))))) (Nat.le_of_ble_eq_true rfl) rfl ?_)
  intro c5 bd
  refine Zb (Ze (Zc (W_dl (n0 := 8) (qs 0 8 .done) hmix (by kernel_rfl) (by kernel_rfl) ?_)))
  have l := bd.drew
  refine DL_q rfl rfl (Zm (v := Value.pointer (some ⟨b, 0, none⟩)) rfl aa ⟨rfl, ?_⟩)
  refine DL_q rfl rfl (Exec.nilCheck_ptr rfl rfl ⟨rfl, ?_⟩)
  refine DL_q rfl rfl (Zp F90_0 rfl rfl rfl ⟨rfl, ?_⟩)
  refine DL_q rfl rfl (Zn ((l).f1) A60 rfl rfl rfl ⟨rfl, ?_⟩)
  refine DL_q rfl rfl (Zp F58_1 rfl rfl rfl ⟨rfl, ?_⟩)
  refine DL_q rfl rfl (Zn (l) A3 rfl rfl rfl ⟨rfl, ?_⟩)
  obtain ⟨bR, ac, d⟩ := Zg d
  obtain ⟨ck, bZ, ax⟩ := ((l).f2).arr_at ac
  refine DL_q rfl rfl (Exec.index_slice S60 rfl ax rfl (idx_some ac).1 (idx_some ac).2.1 ⟨rfl, ?_⟩)
  refine DL_q rfl rfl (Exec.load_arr (F := encBool) ((l).f2) ax A4 rfl rfl rfl ac (Sub.refl _) ?_)
  intro bQ b6
  obtain rfl : bQ = Value.bool (bR) := encBool_val.1 b6
  refine ⟨rfl, ?_⟩
  refine DL_done (Zb (Ze ?_))
  obtain ⟨ae, i, d⟩ := Zg d
  refine W_mid (M := fun f' w' => (un3 fun (aO : Bool) (a6 : (List Bool)) (a7 : (List Bool)) => ∃ (aL : PHeap) , PHeap.le aK aL ∧ St w0 aL (Res.box b 90 [g, h, Value.bool (aO)] :: Res.arr encBool 4 g a6 :: Res.arr encBool 4 h a7 :: Res.box x 51 [Value.string (a.Name), Vi (a.Cost), o, p, q, n, t] :: H) w' ∧ f' 0 = Value.pointer (some ⟨b, 0, none⟩) ∧ f' 3 = Value.pointer (some ⟨x, 0, none⟩) ∧ f' 13 = n ∧ f' 14 = Vi ((a.Changes.length : Int)) ∧ f' 15 = Vi ((a4 : Int))) ae) ?_ ?_
  ·rcases ite_some i with ⟨u, i⟩ | ⟨u, i⟩
   ·refine W_cond_t rfl u (Zd (Za rfl rfl (Zm (v := Value.pointer (some ⟨b, 0, none⟩)) rfl aa (Za rfl rfl (Zp F58_0 rfl rfl rfl (Za rfl rfl (Exec.load_box_agg (ds := [ao, ap, aq]) (l) A47 rfl rfl rfl ?_)))))))
    obtain ⟨bL, b7, i⟩ := Zg i
    obtain ⟨cG, cn, co⟩ := bL
    replace i := un3_eq i
    refine Za rfl rfl (Tc rfl rfl rfl (Zi rfl (Zi rfl args_nil)) (simplify_sets_cond_sim b7 (((l).f3).f3).f3 aD aE aF).r ?_)
    rintro _ c6 ⟨bD, bp, be, rfl⟩
    refine Zb (Ze ?_)
    have ca := Zu i
    subst ae
    exact ⟨bD, bp, ((((((be).f3).drop).f3).f3).f3).f3, aa, aA, am, an, af⟩
   refine W_cond_f rfl u ?_
   replace u := Zk u
   refine W_skip (Ze ?_)
   have cb := Zu i
   subst ae
   exact ⟨aK, (Zv _), (((((l).drop).f3).f3).f3).f3, aa, aA, am, an, af⟩
  intro cg c7 ba
  obtain ⟨aO, a6, a7⟩ := ae
  replace d := un3_eq d
  obtain ⟨bE, bq, bf, bt, bu, bv, bw, bx⟩ := ba
  refine (ib_normal (Ze (Zd (Za rfl rfl (Exec.add rfl bx rfl (Za rfl rfl (Zm (v := Vi (IntKind.i64.wrap ((a4 : Int) + 1))) rfl rfl (Zb (Ze ?_)))))))))
  have cc := Zu d
  subst bC
  exact ⟨bE, (Zt a5 bq), ((((bf).f3).f3).f3).f3, bt, bu, bv, bw, (Eq.trans rfl (wrap_up bk (SliceRep.le (ah.mono m))))⟩
 intro ch c8 aX
 obtain ⟨av, y, ak⟩ := bJ
 replace hm := un3_eq hm
 obtain ⟨aM, z, a1, bz, b0, cu, b1, bS⟩ := aX
 refine Zc (Zd (Za rfl rfl (Zq rfl bS b1 (Zb (Ze (Zc (W_false (Zx (decide_eq_false (by omega))) (W_exit (at_exit (at_exit (ib_here (Ze (Zc (Zd (Za rfl rfl (Zp F51_4 rfl b0 rfl (Za rfl rfl (Zn ((a1).f3) A49 rfl rfl rfl (Za rfl rfl (Zr S49 rfl rfl (ai.mono (Zt m z)) (Za rfl rfl (Zm (v := Vi (0)) rfl rfl (Zb (Ze ?_))))))))))))))))))))))))
 obtain ⟨bM, aV, hm⟩ := Zg hm
 refine W_block (W_forS (fun k' s' f' w' => (un2 fun (aw : Bool) (al : (List Bool)) => ∃ (aN : PHeap) , PHeap.le aM aN ∧ St w0 aN (Res.box b 90 [g, h, Value.bool (aw)] :: Res.arr encBool 4 g y :: Res.arr encBool 4 h al :: H) w' ∧ f' 0 = Value.pointer (some ⟨b, 0, none⟩) ∧ f' 33 = t ∧ f' 34 = Vi ((a.Assigns.length : Int)) ∧ f' 35 = Vi (k' : Int)) s') aV ?_ ?_ ?_)
 ·have bg := ((a1).f3).drop
  exact ⟨aM, (Zv _), (((bg).f2).f2).f2, bz, rfl, rfl, rfl⟩
 ·intro bm bN bF ci c9 bl aY c
  obtain ⟨aw, al⟩ := bN
  replace c := un2_eq c
  obtain ⟨cx, a8, a2, ab, aB, aC, au⟩ := aY
  refine Zc (Zd (Za rfl rfl (Zq rfl au aC (Zb (Ze (Zc (W_true (Zx (decide_eq_true (by omega))) (W_skip (Ze (Zc (W_block (Zc (Zd ?_)))))))))))))
  obtain ⟨j, b8, c⟩ := Zg c
  refine Za rfl rfl (Exec.index_rep S49 rfl aB au (ai.mono (Zt (Zt m z) a8)) b8 ?_)
  intro bX ct aT
  refine Za rfl rfl (Zw (E := encGAssign) a2 A84 rfl rfl rfl aT ?_)
  intro c0 b9
  obtain ⟨ar, rfl, aG⟩ := encGAssign_val.1 b9
  refine Za rfl rfl (Exec.alloc (cs := [Vi (0), Value.string (⟨#[]⟩), Vi (0), Value.slice none 0 0]) a2 Z84 rfl rfl ?_)
  intro bY cA bh
  refine Za rfl rfl (Exec.store_box (ds := [Vi (j.Fluent), Value.string (j.Value.Op), Vi (j.Value.N), ar]) (es := [Vi (j.Fluent), Value.string (j.Value.Op), Vi (j.Value.N), ar]) bh A84 rfl rfl rfl rfl (Zj rfl (Zj rfl (Zj rfl (Zj (aG).one one_nil)))) (Nat.le_of_ble_eq_true rfl) rfl ?_)
  intro cB aj
  refine Zb (Ze (Zc (W_dl (n0 := 8) (qs 0 7 (.e 7 [] .done)) hmix (by kernel_rfl) (by kernel_rfl) (DL_q rfl rfl (Zm (v := Value.pointer (some ⟨b, 0, none⟩)) rfl ab ⟨rfl, ?_⟩)))))
  refine DL_q rfl rfl (Zm (v := Value.pointer (some ⟨b, 0, none⟩)) rfl ab ⟨rfl, ?_⟩)
  refine DL_q rfl rfl (Exec.nilCheck_ptr rfl rfl ⟨rfl, ?_⟩)
  refine DL_q rfl rfl (Zp F90_1 rfl rfl rfl ⟨rfl, ?_⟩)
  refine DL_q rfl rfl (Zn ((aj.drew).f1) A60 rfl rfl rfl ⟨rfl, ?_⟩)
  refine DL_q rfl rfl (Zp F84_0 rfl rfl rfl ⟨rfl, ?_⟩)
  refine DL_q rfl rfl (Zn (aj.drew) A3 rfl rfl rfl ⟨rfl, ?_⟩)
  obtain ⟨bO, bA, c⟩ := Zg c
  obtain ⟨cH, cp⟩ := bO
  replace c := un2_eq c
  refine DL_e rfl rfl (Tc rfl rfl rfl (Zi rfl (Zi rfl (Zi rfl args_nil))) (simplify_sets_mark_105_sim bA (((aj.drew).f3).f3).f3 ).r ?_)
  rintro _ cC ⟨cy, a9, a3, rfl⟩
  refine ⟨ag_nil, ?_⟩
  refine DL_done (Zb (Ze (Zd (Za rfl rfl (Zm (v := Value.pointer (some ⟨b, 0, none⟩)) rfl ab (Za rfl rfl (Zp F84_1 rfl rfl rfl (Za rfl rfl (Exec.load_box_agg (ds := [Value.string (j.Value.Op), Vi (j.Value.N), ar]) ((a3).f3) A82 rfl rfl rfl ?_)))))))))
  obtain ⟨bP, bB, c⟩ := Zg c
  obtain ⟨cI, cq⟩ := bP
  replace c := un2_eq c
  refine Za rfl rfl (Tc rfl rfl rfl (Zi rfl (Zi rfl args_nil)) (simplify_sets_expr_sim bB (((a3).f2).f2).f2 (aG.mono a9)).r ?_)
  rintro _ cD ⟨bG, br, bi, rfl⟩
  refine Zb (ib_normal (Ze (Zd (Za rfl rfl (Exec.add rfl au rfl (Za rfl rfl (Zm (v := Vi (IntKind.i64.wrap ((bm : Int) + 1))) rfl rfl (Zb (Ze ?_)))))))))
  have cd := Zu c
  subst bF
  exact ⟨bG, (Zt (Zt a8 a9) br), (((((bi).f3).drop).f2).f2).f2, ab, aB, aC, (Eq.trans rfl (wrap_up bl (SliceRep.le (ai.mono (Zt m z)))))⟩
 intro cj cE aZ
 obtain ⟨aw, al⟩ := bM
 replace hm := un2_eq hm
 obtain ⟨bH, bs, bj, cv, cw, b2, bT⟩ := aZ
 refine Zc (Zd (Za rfl rfl (Zq rfl bT b2 (Zb (Ze (Zc (W_false (Zx (decide_eq_false (by omega))) (W_exit (at_exit (at_exit (ib_here ?_)))))))))))
 have ce := Zu hm
 subst r
 refine ⟨_, retG0 rfl, ?_⟩
 exact ⟨bH, (Zt (Zt m z) bs), (((bj).f2).f2).f2, rfl⟩
theorem simplify_relevant_sim {w0 w : World} {s : PHeap} {H : List Res} {fu : Nat} {n : Ground} {t : Value} {u : Value} {x : Value} {m : Value} {l : Value} {r : simplify_sets} (hm : simplify_relevant_p fu n = some r) (hS : St w0 s (H) w) (aM : SliceRep encAtom s t n.Atoms) (aN : SliceRep encGFluent s u n.Fluents) (cR : SliceRep (encInt .i64) s x n.Init) (av : SliceRep encCond s m n.Goal) (aw : SliceRep encGOp s l n.Ops) :
  Calls Try.prog 34 #[Value.agg #[t, u, x, m, l]] w fun e w' => ∃ v, e = .returned v ∧ ((fun (ax : simplify_sets) => ∃ (bw : PHeap) (aO : Nat) (b6 : Value) (b7 : Value), PHeap.le s bw ∧ St w0 bw (Res.box aO 90 [b6, b7, Value.bool (ax.changed)] :: Res.arr encBool 4 b6 ax.atoms :: Res.arr encBool 4 b7 ax.fluents :: H) w' ∧ v = Value.pointer (some ⟨aO, 0, none⟩)) r) := by
 unfold simplify_relevant_p at hm
 refine calls_of_W Try.func34 rfl rfl (Zc (Zd (Za rfl rfl (Exec.box (cs := [t, u, x, m, l]) hS rfl rfl rfl ?_))))
 intro g d1 ae
 refine Za rfl rfl (Zo (v := Value.pointer none) rfl rfl (Zb (Ze (Zc ?_))))
 obtain ⟨ci, br, hm⟩ := Zg hm
 obtain ⟨cj, bs, hm⟩ := Zg hm
 refine W_mid (M := fun f' w' => ∃ (bx : PHeap) (a : Nat) (b : Value) (d : Value), PHeap.le s bx ∧ St w0 bx (Res.box g 28 [t, u, x, m, l] :: Res.box a 90 [b, d, Value.bool (false)] :: Res.arr encBool 4 b ci :: Res.arr encBool 4 d cj :: H) w' ∧ f' 1 = Value.pointer (some ⟨g, 0, none⟩) ∧ f' 3 = Value.pointer (some ⟨a, 0, none⟩)) ?_ ?_
 ·refine W_dl (n0 := 10) (qs 0 3 (qs 4 3 (.alt (.e 3 [4, 5, 6] (.e 7 [] (.q 8 (.e 9 [] .done)))) (.e 7 [0, 1, 2] (.e 3 [] (.q 8 (.e 9 [] .done))))))) hmix (by kernel_rfl) (by kernel_rfl) (DL_q rfl rfl (Zp F28_0 rfl rfl rfl ⟨rfl, ?_⟩))
  refine DL_q rfl rfl (Zn (ae.drew) A22 rfl rfl rfl ⟨rfl, ?_⟩)
  refine DL_q rfl rfl (Zr S22 rfl rfl aM ⟨rfl, ?_⟩)
  refine DL_q rfl rfl (Zp F28_1 rfl rfl rfl ⟨rfl, ?_⟩)
  refine DL_q rfl rfl (Zn (ae.drew) A23 rfl rfl rfl ⟨rfl, ?_⟩)
  refine DL_q rfl rfl (Zr S23 rfl rfl aN ⟨rfl, ?_⟩)
  refine DL_alt ?_ ?_
  ·refine DL_e rfl rfl (Exec.make (E := encBool) ae.drew S60 Z4 rfl rfl rfl rfl br ?_)
   intro ao d2 aT
   refine ⟨(ag_cons (ag_r rfl rfl (Zp F28_1 rfl rfl rfl ⟨rfl, rfl⟩)) (ag_cons (ag_r rfl rfl (Zn ((aT).f1) A23 rfl rfl rfl ⟨rfl, rfl⟩)) (ag_cons (ag_r rfl rfl (Zr S23 rfl rfl aN ⟨rfl, rfl⟩)) ag_nil))), ?_⟩
   refine DL_e rfl rfl (Exec.make (E := encBool) aT S60 Z4 rfl rfl rfl rfl bs ?_)
   intro ap d3 ay
   refine ⟨ag_nil, ?_⟩
   refine DL_q rfl rfl (Exec.build rfl (parts_cons (c := [ao]) (cells_of rfl (cells_one ((ay).f1).arr_one)) (parts_cons (c := [ap]) (cells_of rfl (cells_one (ay).arr_one)) parts_nil)) (v := Value.agg #[ao, ap, Value.bool (false)]) (fun _ => by kernel_rfl) ⟨rfl, ?_⟩)
   refine DL_e rfl rfl (Exec.box (cs := [ao, ap, Value.bool (false)]) ay rfl rfl rfl ?_)
   intro aP d4 bO
   refine ⟨ag_nil, ?_⟩
   refine DL_done (Za rfl rfl (Zo (v := Value.pointer (some ⟨aP, 0, none⟩)) rfl rfl (Zb (Ze ?_))))
   exact ⟨s, aP, ao, ap, (Zv _), ((((bO).f1).f2).f2).f3, rfl, rfl⟩
  refine DL_e rfl rfl (Exec.make (E := encBool) ae.drew S60 Z4 rfl rfl rfl rfl bs ?_)
  intro aq d5 aU
  refine ⟨(ag_cons (ag_r rfl rfl (Zp F28_0 rfl rfl rfl ⟨rfl, rfl⟩)) (ag_cons (ag_r rfl rfl (Zn ((aU).f1) A22 rfl rfl rfl ⟨rfl, rfl⟩)) (ag_cons (ag_r rfl rfl (Zr S22 rfl rfl aM ⟨rfl, rfl⟩)) ag_nil))), ?_⟩
  refine DL_e rfl rfl (Exec.make (E := encBool) aU S60 Z4 rfl rfl rfl rfl br ?_)
  intro ar d6 az
  refine ⟨ag_nil, ?_⟩
  refine DL_q rfl rfl (Exec.build rfl (parts_cons (c := [ar]) (cells_of rfl (cells_one (az).arr_one)) (parts_cons (c := [aq]) (cells_of rfl (cells_one ((az).f1).arr_one)) parts_nil)) (v := Value.agg #[ar, aq, Value.bool (false)]) (fun _ => by kernel_rfl) ⟨rfl, ?_⟩)
  refine DL_e rfl rfl (Exec.box (cs := [ar, aq, Value.bool (false)]) az rfl rfl rfl ?_)
  intro aQ d7 bP
  refine ⟨ag_nil, ?_⟩
  refine DL_done (Za rfl rfl (Zo (v := Value.pointer (some ⟨aQ, 0, none⟩)) rfl rfl (Zb (Ze ?_))))
  exact ⟨s, aQ, ar, aq, (Zv _), ((((bP).f2).f2).f2).f3, rfl, rfl⟩
 intro dd d8 bL
 obtain ⟨bz, a, b, d, z, aV, bl, cp⟩ := bL
 refine (Ze (Zc (Zc (Zd (Za rfl rfl (Zp F28_3 rfl bl rfl (Za rfl rfl (Zn (aV) A25 rfl rfl rfl (Za rfl rfl (Zr S25 rfl rfl (av.mono z) (Za rfl rfl (Zm (v := Vi (0)) rfl rfl (Zb (Ze ?_))))))))))))))
 obtain ⟨cH, bD, hm⟩ := Zg hm
 refine W_block (W_forS (fun k' s' f' w' => (un3 fun (aK : Bool) (a2 : (List Bool)) (a3 : (List Bool)) => ∃ (b0 : PHeap) , PHeap.le bz b0 ∧ St w0 b0 (Res.box g 28 [t, u, x, m, l] :: Res.box a 90 [b, d, Value.bool (aK)] :: Res.arr encBool 4 b a2 :: Res.arr encBool 4 d a3 :: H) w' ∧ f' 1 = Value.pointer (some ⟨g, 0, none⟩) ∧ f' 3 = Value.pointer (some ⟨a, 0, none⟩) ∧ f' 19 = m ∧ f' 20 = Vi ((n.Goal.length : Int)) ∧ f' 21 = Vi (k' : Int)) s') bD ?_ ?_ ?_)
 ·have bQ := (aV).f3
  exact ⟨bz, (Zv _), (((bQ).f3).f3).f3, bl, cp, rfl, rfl, rfl⟩
 ·intro ch cI cA de d9 cd bG o
  obtain ⟨aK, a2, a3⟩ := cI
  replace o := un3_eq o
  obtain ⟨dx, bd, aW, cq, bm, bn, bo, aJ⟩ := bG
  refine Zc (Zd (Za rfl rfl (Zq rfl aJ bo (Zb (Ze (Zc (W_true (Zx (decide_eq_true (by omega))) (W_skip (Ze (Zc (W_block (Zc (Zd ?_)))))))))))))
  obtain ⟨dP, c3, o⟩ := Zg o
  refine Za rfl rfl (Exec.index_rep S25 rfl bn aJ (av.mono (Zt z bd)) c3 ?_)
  intro cS dr bB
  refine Za rfl rfl (Zw (E := encCond) aW A47 rfl rfl rfl bB ?_)
  intro dz c4
  obtain ⟨aG, aH, aI, rfl, bt, bu, bv⟩ := encCond_val.1 c4
  refine Za rfl rfl (Exec.alloc (cs := [Value.slice none 0 0, Value.slice none 0 0, Value.slice none 0 0]) aW Z47 rfl rfl ?_)
  intro cT dA bR
  refine Za rfl rfl (Exec.store_box (ds := [aG, aH, aI]) (es := [aG, aH, aI]) bR A47 rfl rfl rfl rfl (Zj (bt).one (Zj (bu).one (Zj (bv).one one_nil))) (Nat.le_of_ble_eq_true rfl) rfl ?_)
  intro dB aX
  refine Zb (Ze (Zd (Za rfl rfl (Zm (v := Value.pointer (some ⟨a, 0, none⟩)) rfl bm (Za rfl rfl (Exec.load_box_agg (ds := [aG, aH, aI]) (aX) A47 rfl rfl rfl ?_))))))
  obtain ⟨cJ, c5, o⟩ := Zg o
  obtain ⟨dR, dm, dn⟩ := cJ
  replace o := un3_eq o
  refine Za rfl rfl (Tc rfl rfl rfl (Zi rfl (Zi rfl args_nil)) (simplify_sets_cond_sim c5 (((aX).f4).f4).f4 bt bu bv).r ?_)
  rintro _ dC ⟨cB, ck, bS, rfl⟩
  refine Zb (ib_normal (Ze (Zd (Za rfl rfl (Exec.add rfl aJ rfl (Za rfl rfl (Zm (v := Vi (IntKind.i64.wrap ((ch : Int) + 1))) rfl rfl (Zb (Ze ?_)))))))))
  have cW := Zu o
  subst cA
  exact ⟨cB, (Zt bd ck), ((((((bS).f3).drop).f2).f2).f2).f3, cq, bm, bn, bo, (Eq.trans rfl (wrap_up cd (SliceRep.le (av.mono z))))⟩
 intro df dD bH
 obtain ⟨aK, a2, a3⟩ := cH
 replace hm := un3_eq hm
 obtain ⟨aE, af, bT, cr, bp, du, ct, cP⟩ := bH
 refine Zc (Zd (Za rfl rfl (Zq rfl cP ct (Zb (Ze (Zc (W_false (Zx (decide_eq_false (by omega))) (W_exit (at_exit (at_exit (ib_here (Ze (Zc (Zc (Zd (Za rfl rfl (Zm (v := Value.pointer (some ⟨a, 0, none⟩)) rfl bp (Za rfl rfl (Exec.nilCheck_ptr rfl rfl (Za rfl rfl (Zp F90_2 rfl rfl rfl (Za rfl rfl (Exec.store_box (ds := [Value.bool (true)]) (es := [b, d, Value.bool (true)]) (bT).f1 A4 rfl rfl rfl rfl (Zj rfl one_nil) (Nat.le_of_ble_eq_true rfl) rfl ?_)))))))))))))))))))))))
 intro dE bU
 refine Zb (Ze ?_)
 obtain ⟨aR, bE, dl, cf, cc⟩ := ctl_some hm
 refine W_mid (M := fun f' w' => ∃ s', (aR = .next s' ∨ aR = .brk s') ∧ (un3 fun (b8 : Bool) (be : (List Bool)) (bf : (List Bool)) => ∃ (b1 : PHeap) , PHeap.le aE b1 ∧ St w0 b1 (Res.box g 28 [t, u, x, m, l] :: Res.box a 90 [b, d, Value.bool (b8)] :: Res.arr encBool 4 b be :: Res.arr encBool 4 d bf :: H) w' ∧ f' 1 = Value.pointer (some ⟨g, 0, none⟩) ∧ f' 3 = Value.pointer (some ⟨a, 0, none⟩)) s') ?_ ?_
 ·refine W_block (W_while (fun s' f' w' => (un3 fun (b9 : Bool) (bg : (List Bool)) (bh : (List Bool)) => ∃ (b2 : PHeap) , PHeap.le aE b2 ∧ St w0 b2 (Res.box g 28 [t, u, x, m, l] :: Res.box a 90 [b, d, Value.bool (b9)] :: Res.arr encBool 4 b bg :: Res.arr encBool 4 d bh :: H) w' ∧ f' 1 = Value.pointer (some ⟨g, 0, none⟩) ∧ f' 3 = Value.pointer (some ⟨a, 0, none⟩)) s') bE ?_ ?_)
  ·have bV := (bU).f3
   exact ⟨aE, (Zv _), (((bV).f3).f2).f3, cr, bp⟩
  intro cK aS dg dF bI i cg
  obtain ⟨b9, bg, bh⟩ := cK
  replace i := un3_eq i
  obtain ⟨aF, ad, a0, a6, ag⟩ := bI
  refine Zc (Zc (Zd (Za rfl rfl (Zm (v := Value.pointer (some ⟨a, 0, none⟩)) rfl ag (Za rfl rfl (Exec.nilCheck_ptr rfl rfl (Za rfl rfl (Zp F90_2 rfl rfl rfl (Za rfl rfl (Zn ((a0).f1) A4 rfl rfl rfl (Zb (Ze ?_))))))))))))
  rcases ite_some i with ⟨ab, i⟩ | ⟨ab, i⟩
  ·refine W_cond_t rfl ab (W_skip (Ze (W_block (Zc (Zd (Za rfl rfl (Zm (v := Value.pointer (some ⟨a, 0, none⟩)) rfl ag (Za rfl rfl (Exec.nilCheck_ptr rfl rfl (Za rfl rfl (Zp F90_2 rfl rfl rfl (Za rfl rfl (Exec.store_box (ds := [Value.bool (false)]) (es := [b, d, Value.bool (false)]) (a0).f1 A4 rfl rfl rfl rfl (Zj rfl one_nil) (Nat.le_of_ble_eq_true rfl) rfl ?_)))))))))))))
   intro dG aY
   refine Zb (Ze (Zc (Zd (Za rfl rfl (Zp F28_4 rfl a6 rfl (Za rfl rfl (Zn ((aY).f1) A26 rfl rfl rfl (Za rfl rfl (Zr S26 rfl rfl (aw.mono (Zt (Zt z af) ad)) (Za rfl rfl (Zm (v := Vi (0)) rfl rfl (Zb (Ze ?_)))))))))))))
   obtain ⟨cL, bF, i⟩ := Zg i
   refine W_block (W_forS (fun k' s' f' w' => (un3 fun (aL : Bool) (a4 : (List Bool)) (a5 : (List Bool)) => ∃ (b3 : PHeap) , PHeap.le aF b3 ∧ St w0 b3 (Res.box g 28 [t, u, x, m, l] :: Res.box a 90 [b, d, Value.bool (aL)] :: Res.arr encBool 4 b a4 :: Res.arr encBool 4 d a5 :: H) w' ∧ f' 1 = Value.pointer (some ⟨g, 0, none⟩) ∧ f' 3 = Value.pointer (some ⟨a, 0, none⟩) ∧ f' 40 = l ∧ f' 41 = Vi ((n.Ops.length : Int)) ∧ f' 42 = Vi (k' : Int)) s') bF ?_ ?_ ?_)
   ·have bW := (aY).f3
    exact ⟨aF, (Zv _), (((bW).f3).f2).f3, a6, ag, rfl, rfl, rfl⟩
   ·intro bc cM cC dh dH ce bJ j
    obtain ⟨aL, a4, a5⟩ := cM
    replace j := un3_eq j
    obtain ⟨dy, bi, aZ, bq, ah, a7, a8, au⟩ := bJ
    refine Zc (Zd (Za rfl rfl (Zq rfl au a8 (Zb (Ze (Zc (W_true (Zx (decide_eq_true (by omega))) (W_skip (Ze (Zc (W_block (Zc (Zd ?_)))))))))))))
    obtain ⟨y, c6, j⟩ := Zg j
    refine Za rfl rfl (Exec.index_rep S26 rfl a7 au (aw.mono (Zt (Zt (Zt z af) ad) bi)) c6 ?_)
    intro cU dt bC
    refine Za rfl rfl (Zw (E := encGOp) aZ A51 rfl rfl rfl bC ?_)
    intro d0 c7
    obtain ⟨aj, ak, al, am, an, rfl, a9, aA, aB, aC, aD⟩ := encGOp_val.1 c7
    refine Za rfl rfl (Exec.alloc (cs := [Value.string (⟨#[]⟩), Vi (0), Value.slice none 0 0, Value.slice none 0 0, Value.slice none 0 0, Value.slice none 0 0, Value.slice none 0 0]) aZ Z51 rfl rfl ?_)
    intro cV dI bX
    refine Za rfl rfl (Exec.store_box (ds := [Value.string (y.Name), Vi (y.Cost), aj, ak, al, am, an]) (es := [Value.string (y.Name), Vi (y.Cost), aj, ak, al, am, an]) bX A51 rfl rfl rfl rfl (Zj rfl (Zj rfl (Zj (a9).one (Zj (aA).one (Zj (aB).one (Zj (aC).one (Zj (aD).one one_nil))))))) (Nat.le_of_ble_eq_true rfl) rfl ?_)
    intro dJ ba
    refine Zb (Ze (Zc (Zd (Za rfl rfl (Zm (v := Value.pointer (some ⟨a, 0, none⟩)) rfl ah (Za rfl rfl (Exec.load_box_agg (ds := [Value.string (y.Name), Vi (y.Cost), aj, ak, al, am, an]) (ba) A51 rfl rfl rfl ?_)))))))
    obtain ⟨dQ, c8, j⟩ := Zg j
    refine Za rfl rfl (Tc rfl rfl rfl (Zi rfl (Zi rfl args_nil)) (simplify_sets_touches_sim c8 (((ba).f4).f4).f4 a9 aA aB aC aD).r ?_)
    rintro _ dK ⟨b4, aa, a1, rfl⟩
    refine Zb (Ze ?_)
    obtain ⟨ai, p, j⟩ := Zg j
    refine W_mid (M := fun f' w' => (un3 fun (bA : Bool) (bj : (List Bool)) (bk : (List Bool)) => ∃ (b5 : PHeap) , PHeap.le b4 b5 ∧ St w0 b5 (Res.box g 28 [t, u, x, m, l] :: Res.box a 90 [b, d, Value.bool (bA)] :: Res.arr encBool 4 b bj :: Res.arr encBool 4 d bk :: H) w' ∧ f' 1 = Value.pointer (some ⟨g, 0, none⟩) ∧ f' 3 = Value.pointer (some ⟨a, 0, none⟩) ∧ f' 40 = l ∧ f' 41 = Vi ((n.Ops.length : Int)) ∧ f' 42 = Vi ((bc : Int))) ai) ?_ ?_
    ·rcases ite_some p with ⟨ac, p⟩ | ⟨ac, p⟩
     ·refine W_cond_t rfl ac (Zd (Za rfl rfl (Zm (v := Value.pointer (some ⟨a, 0, none⟩)) rfl ah (Za rfl rfl (Exec.load_box_agg (ds := [Value.string (y.Name), Vi (y.Cost), aj, ak, al, am, an]) ((a1).f3) A51 rfl rfl rfl ?_)))))
      obtain ⟨cN, c9, p⟩ := Zg p
      obtain ⟨dS, dp, dq⟩ := cN
      replace p := un3_eq p
      refine Za rfl rfl (Tc rfl rfl rfl (Zi rfl (Zi rfl args_nil)) (simplify_sets_operator_sim c9 (((a1).f2).f2).f2 (a9.mono aa) (aA.mono aa) (aB.mono aa) (aC.mono aa) (aD.mono aa)).r ?_)
      rintro _ dL ⟨cD, cl, bY, rfl⟩
      refine Zb (Ze ?_)
      have cX := Zu p
      subst ai
      exact ⟨cD, cl, ((((((bY).f3).drop).f2).f2).f2).f3, bq, ah, a7, a8, au⟩
     refine W_cond_f rfl ac ?_
     replace ac := Zk ac
     refine W_skip (Ze ?_)
     have cY := Zu p
     subst ai
     exact ⟨b4, (Zv _), ((((((a1).f3).drop).f2).f2).f2).f3, bq, ah, a7, a8, au⟩
    intro di dM bM
    obtain ⟨bA, bj, bk⟩ := ai
    replace j := un3_eq j
    obtain ⟨cE, cm, bZ, cu, cv, cw, cx, cy⟩ := bM
    refine (ib_normal (Ze (Zd (Za rfl rfl (Exec.add rfl cy rfl (Za rfl rfl (Zm (v := Vi (IntKind.i64.wrap ((bc : Int) + 1))) rfl rfl (Zb (Ze ?_)))))))))
    have cZ := Zu j
    subst cC
    exact ⟨cE, (Zt (Zt bi aa) cm), ((((bZ).f3).f3).f3).f3, cu, cv, cw, cx, (Eq.trans rfl (wrap_up ce (SliceRep.le (aw.mono (Zt (Zt z af) ad)))))⟩
   intro dj dN bK
   obtain ⟨aL, a4, a5⟩ := cL
   replace i := un3_eq i
   obtain ⟨cF, cn, ca, cz, c0, dv, c1, cQ⟩ := bK
   refine Zc (Zd (Za rfl rfl (Zq rfl cQ c1 (Zb (Ze (Zc (W_false (Zx (decide_eq_false (by omega))) (W_exit (at_exit (at_exit (ib_here (ib_normal (Ze ?_)))))))))))))
   have da := Zu i
   subst aS
   refine ⟨_, rfl, ?_⟩; exact ⟨cF, (Zt ad cn), ((((ca).f3).f3).f3).f3, cz, c0⟩
  refine W_cond_f rfl ab ?_
  replace ab := Zk ab
  refine W_exit (at_exit (at_exit (ib_here (Ze ?_))))
  have db := Zu i
  subst aS
  refine ⟨_, .inr (cg (by intro _ h; cases h)), ?_⟩; exact ⟨aF, ad, ((((a0).f3).f3).f3).f3, a6, ag⟩
 rintro dk dO ⟨cO, bb, bN⟩
 have hm := bb.elim (cf _) (cc _)
 clear bb
 obtain ⟨b8, be, bf⟩ := cO
 replace hm := un3_eq hm
 obtain ⟨cG, co, cb, dw, c2⟩ := bN
 refine (Ze (Zc (Zd (Za rfl rfl (Zm (v := Value.pointer (some ⟨a, 0, none⟩)) rfl c2 (Za rfl rfl (Zo (v := Value.pointer (some ⟨a, 0, none⟩)) rfl rfl (Zb (Ze (W_ret ?_))))))))))
 have dc := Zu hm
 subst r
 refine ⟨_, ret1 rfl, ?_⟩
 exact ⟨cG, a, b, d, (Zt (Zt z af) co), ((((cb).drop).f2).f2).f2, rfl⟩
theorem Z3 : tyZero Try.prog 3 = some (Vi (0)) := by kernel_rfl
theorem simplify_numbers_o_sim {w0 w : World} {s : PHeap} {H : List Res} {g : (List Bool)} {d : Value} {r : (List Int)} (hm : simplify_numbers_o_p g = some r) (hS : St w0 s (Res.arr encBool 4 d g :: H) w)  :
  Calls Try.prog 35 #[d] w fun e w' => ∃ v, e = .returned v ∧ ((fun (aM : (List Int)) => ∃ (ac : PHeap) (am : Value), PHeap.le s ac ∧ St w0 ac (Res.arr encBool 4 d g :: H) w' ∧ v = am ∧ SliceRep (encInt .i64) ac am aM) r) := by
 unfold simplify_numbers_o_p at hm
 refine calls_of_W Try.func35 rfl rfl (Zc (Zd (Za rfl rfl (Zo (v := Value.slice none 0 0) rfl rfl (Zb (Ze (Zc (Zd (Za rfl rfl (Zm (v := d) rfl rfl (Za rfl rfl (Exec.len_arr (hS) S60 rfl rfl ?_))))))))))))
 obtain ⟨ba, aA, hm⟩ := Zg hm
 refine Za rfl rfl (Exec.make (E := (encInt .i64)) hS S24 Z3 rfl rfl rfl rfl aA ?_)
 intro b bg q
 refine Za rfl rfl (Zo (v := b) rfl rfl (Zb (Ze (Zc (Zd (Za rfl rfl (Zo (v := Vi (0)) rfl rfl (Zb (Ze (Zc (Zc (Zd (Za rfl rfl (Zm (v := d) rfl rfl (Za rfl rfl (Exec.len_arr ((q).f1) S60 rfl rfl (Za rfl rfl (Zm (v := Vi (0)) rfl rfl (Zb (Ze ?_))))))))))))))))))))
 obtain ⟨aI, an, hm⟩ := Zg hm
 refine W_block (W_forS (fun k' s' f' w' => (un2 fun (i : Int) (u : (List Int)) => ∃ (ak : PHeap) , PHeap.le s ak ∧ St w0 ak (Res.arr encBool 4 d g :: Res.arr (encInt .i64) 3 b u :: H) w' ∧ f' 3 = b ∧ f' 4 = Vi (i) ∧ f' 10 = d ∧ f' 11 = Vi ((g.length : Int)) ∧ f' 12 = Vi (k' : Int)) s') an ?_ ?_ ?_)
 ·have ar := (q).f1
  exact ⟨s, (Zv _), ar, rfl, rfl, rfl, rfl, rfl⟩
 ·intro h aJ aF aU bh ay ao a
  obtain ⟨i, u⟩ := aJ
  replace a := un2_eq a
  obtain ⟨ad, az, m, n, x, y, z, l⟩ := ao
  refine Zc (Zd (Za rfl rfl (Zq rfl l z (Zb (Ze (Zc (W_true (Zx (decide_eq_true (by omega))) (W_skip (Ze (Zc (W_block (Zc (Zd (Za rfl rfl (Zm (v := Vi ((h : Int))) rfl l ?_)))))))))))))))
  obtain ⟨ae, o, a⟩ := Zg a
  obtain ⟨aX, aN, af⟩ := (m).arr_at o
  refine Za rfl rfl (Exec.index_slice S60 rfl (Eq.trans y af) l (idx_some o).1 (idx_some o).2.1 (Za rfl rfl (Exec.load_arr (F := encBool) (m) af A4 rfl rfl rfl o (Sub.refl _) ?_)))
  intro aK aB
  obtain rfl : aK = Value.bool (ae) := encBool_val.1 aB
  refine Za rfl rfl (Zo (v := Vi ((h : Int))) rfl rfl (Za rfl rfl (Zo (v := Value.bool (ae)) rfl rfl (Zb (Ze (Zc (Zd (Za rfl rfl (Zm (v := b) rfl n (Za rfl rfl (Zm (v := Vi ((h : Int))) rfl rfl ?_)))))))))))
  obtain ⟨bm, aa, a⟩ := Zg a
  obtain ⟨aY, aO, ag⟩ := ((m).f1).arr_at aa
  refine Za rfl rfl (Exec.index_slice S24 rfl ag rfl (idx_some aa).1 (idx_some aa).2.1 ?_)
  obtain ⟨bb, aC, a⟩ := Zg a
  refine Za rfl rfl (Exec.store_arr (m).f1 ag A3 rfl rfl rfl rfl (encInt_val.2 rfl) aC ?_)
  intro bi t
  refine Zb (Ze (Zc (Zd (Za rfl rfl (Zm (v := Value.bool (ae)) rfl rfl (Zb (Ze ?_)))))))
  obtain ⟨p, c, a⟩ := Zg a
  refine W_mid (M := fun f' w' => (un2 fun (aj : Int) (ai : (List Int)) => ∃ (al : PHeap) , PHeap.le ad al ∧ St w0 al (Res.arr encBool 4 d g :: Res.arr (encInt .i64) 3 b ai :: H) w' ∧ f' 3 = b ∧ f' 4 = Vi (aj) ∧ f' 10 = d ∧ f' 11 = Vi ((g.length : Int)) ∧ f' 12 = Vi ((h : Int))) p) ?_ ?_
  ·rcases ite_some c with ⟨j, c⟩ | ⟨j, c⟩
   ·refine W_cond_t rfl j (Zc (Zd (Za rfl rfl (Zm (v := b) rfl n (Za rfl rfl (Zm (v := Vi ((h : Int))) rfl rfl (Za rfl rfl (Zm (v := Vi (i)) rfl x ?_))))))))
    obtain ⟨bn, ab, c⟩ := Zg c
    obtain ⟨aZ, aP, ah⟩ := (t).arr_at ab
    refine Za rfl rfl (Exec.index_slice S24 rfl ah rfl (idx_some ab).1 (idx_some ab).2.1 ?_)
    obtain ⟨bc, aD, c⟩ := Zg c
    refine Za rfl rfl (Exec.store_arr t ah A3 rfl rfl rfl rfl (encInt_val.2 rfl) aD ?_)
    intro bj au
    refine Zb (Ze (Zd (Za rfl rfl (Zm (v := Vi (i)) rfl x (Za rfl rfl (Exec.add rfl rfl rfl (Za rfl rfl (Zo (v := Vi (IntKind.i64.wrap (i + 1))) rfl rfl (Zb (Ze ?_))))))))))
    have aQ := Zu c
    subst p
    exact ⟨ad, (Zv _), (au).f1, n, rfl, y, z, l⟩
   refine W_cond_f rfl j ?_
   replace j := Zk j
   refine W_skip (Ze ?_)
   have aR := Zu c
   subst p
   exact ⟨ad, (Zv _), (t).f1, n, x, y, z, l⟩
  intro aV bk aq
  obtain ⟨aj, ai⟩ := p
  replace a := un2_eq a
  obtain ⟨aG, a0, av, a3, a4, a5, a6, a7⟩ := aq
  refine (ib_normal (Ze (Zd (Za rfl rfl (Exec.add rfl a7 rfl (Za rfl rfl (Zm (v := Vi (IntKind.i64.wrap ((h : Int) + 1))) rfl rfl (Zb (Ze ?_)))))))))
  have aS := Zu a
  subst aF
  exact ⟨aG, (Zt az a0), ((av).f1).f1, a3, a4, a5, a6, (Eq.trans rfl (wrap_up ay ((q).f1).arr_le))⟩
 intro aW bl ap
 obtain ⟨i, u⟩ := aI
 replace hm := un2_eq hm
 obtain ⟨bf, a1, aw, a8, bd, be, a9, aL⟩ := ap
 refine Zc (Zd (Za rfl rfl (Zq rfl aL a9 (Zb (Ze (Zc (W_false (Zx (decide_eq_false (by omega))) (W_exit (at_exit (at_exit (ib_here (Ze (Zc (Zd (Za rfl rfl (Zm (v := b) rfl a8 (Za rfl rfl (Zo (v := b) rfl rfl (Zb (Ze (W_ret ?_)))))))))))))))))))))
 have aT := Zu hm
 subst r
 refine ⟨_, ret1 rfl, ?_⟩
 obtain ⟨aH, a2, ax, aE⟩ := (aw).f1.freezeArr
 exact ⟨aH, b, (Zt a1 a2), ax, rfl, aE⟩
theorem A56 : tyAgg Try.prog 56 = some (true, 2) := by kernel_rfl
theorem Z56 : tyZero Try.prog 56 = some (Value.agg #[Value.string ⟨#[]⟩, Value.slice none 0 0]) := by kernel_rfl
theorem F56_0 : tyField Try.prog 56 0 = some 0 := by kernel_rfl
theorem F56_1 : tyField Try.prog 56 1 = some 1 := by kernel_rfl
theorem A54 : tyAgg Try.prog 54 = some (false, 1) := by kernel_rfl
theorem S54 : tySlice Try.prog 54 = some (9, 1, 16) := by kernel_rfl
theorem Z9 : tyZero Try.prog 9 = some (Value.string ⟨#[]⟩) := by kernel_rfl
theorem slices_Clone___string_string__sim {w0 w : World} {s : PHeap} {H : List Res} {b : (List ByteArray)} {c : Value} {r : (List ByteArray)} (hm : slices_Clone___string_string__p b = some r) (hS : St w0 s (H) w) (d : SliceRep encStr s c b) :
  Calls Try.prog 36 #[c] w fun e w' => ∃ v, e = .returned v ∧ ((fun (u : (List ByteArray)) => ∃ (g : PHeap) (h : Value), PHeap.le s g ∧ St w0 g (Res.arr encStr 9 h u :: H) w' ∧ v = h) r) := by
 unfold slices_Clone___string_string__p at hm
 refine calls_of_W Try.func36 rfl rfl (Zc (Zd (Za rfl rfl (Zo (v := Value.slice none 0 0) rfl rfl (Zb (Ze (Zc (Zc (Zd (Za rfl rfl (Zm (v := c) rfl rfl ?_)))))))))))
 obtain ⟨j, ab, y, k, p⟩ := (d).nilShape
 refine Za rfl rfl (Exec.slice_eql_nil Try.underlying54 rfl k rfl (Zb (Ze ?_)))
 by_cases a : j.isNone = true
 ·have q := p a
  replace hm := (show (some []) = ((app 16 [] b).bind fun f => some f) from by simp [q, app]).trans hm
  refine W_true ((Zx a)) (Zc (Zd (Za rfl rfl (Zo (v := Value.slice none 0 0) rfl rfl (Zb (Ze (W_ret (at_ret ?_))))))))
  have z := Zu hm
  subst r
  refine ⟨_, ret1 rfl, ?_⟩
  have l := hS.nilArr encStr 9
  exact ⟨s, (Value.slice none 0 0), (Zv _), l, rfl⟩
 replace a := Zk a
 refine W_false ((Zx a)) (W_skip (Ze (Zc (Zd (Za rfl rfl (Exec.buildSlice (Te := 9) (cs := []) hS rfl parts_nil (fun _ => by kernel_rfl) ?_))))))
 intro x ac m
 refine Za rfl rfl (Zm (v := c) rfl rfl ?_)
 have n := St.boxArr (E := encStr) (xs := []) m rfl (by simp [maxLen])
 obtain ⟨f, t, hm⟩ := Zg hm
 refine Za rfl rfl (Exec.append_rep (E := encStr) (ys := b) n S54 Z9 rfl (by decide) rfl rfl rfl d t ?_)
 intro i ad o
 refine Za rfl rfl (Zo (v := i) rfl rfl (Zb (Ze (W_ret ?_))))
 have aa := Zu hm
 subst r
 refine ⟨_, ret1 rfl, ?_⟩
 exact ⟨s, i, (Zv _), o, rfl⟩
theorem Z93 : tyZero Try.prog 93 = some (Value.agg #[Value.string ⟨#[]⟩, Value.slice none 0 0, Vi (0), Vi (0), Vi (0)]) := by kernel_rfl
theorem F93_0 : tyField Try.prog 93 0 = some 0 := by kernel_rfl
theorem F32_0 : tyField Try.prog 32 0 = some 0 := by kernel_rfl
theorem simplify_along_sim {w0 w : World} {s : PHeap} {H : List Res} {m : (List Int)} {y : (List Int)} {d : Value} {g : Value} {r : (List Int)} (hm : simplify_along_p m y = some r) (hS : St w0 s (H) w) (i : SliceRep (encInt .i64) s d m) (ac : SliceRep (encInt .i64) s g y) :
  Calls Try.prog 80 #[d, g] w fun e w' => ∃ v, e = .returned v ∧ ((fun (a6 : (List Int)) => ∃ (o : PHeap) (z : Value), PHeap.le s o ∧ St w0 o (H) w' ∧ v = z ∧ SliceRep (encInt .i64) o z a6) r) := by
 unfold simplify_along_p at hm
 refine calls_of_W Try.func80 rfl rfl (Zc (Zd (Za rfl rfl (Zo (v := Value.slice none 0 0) rfl rfl (Zb (Ze (Zc (Zd (Za rfl rfl (Zo (v := Value.slice none 0 0) rfl rfl (Zb (Ze (Zc (Zc (Zd (Za rfl rfl (Zm (v := d) rfl rfl (Za rfl rfl (Zr S24 rfl rfl i (Za rfl rfl (Zm (v := Vi (0)) rfl rfl (Zb (Ze ?_)))))))))))))))))))))))
 obtain ⟨n, af, hm⟩ := Zg hm
 refine W_block (W_forS (fun k' s' f' w' => (fun (n : (List Int)) => ∃ (x : PHeap) (a : Value), PHeap.le s x ∧ St w0 x (Res.arr (encInt .i64) 3 a n :: H) w' ∧ f' 1 = g ∧ f' 5 = a ∧ f' 8 = d ∧ f' 9 = Vi ((m.length : Int)) ∧ f' 10 = Vi (k' : Int)) s') af ?_ ?_ ?_)
 ·have ai := hS.nilArr (encInt .i64) 3
  exact ⟨s, (Value.slice none 0 0), (Zv _), ai, rfl, rfl, rfl, rfl, rfl⟩
 ·intro ao n a2 aC aM an ag b
  obtain ⟨a3, a, l, j, q, ar, t, u, p⟩ := ag
  refine Zc (Zd (Za rfl rfl (Zq rfl p u (Zb (Ze (Zc (W_true (Zx (decide_eq_true (by omega))) (W_skip (Ze (Zc (W_block (Zc (Zd ?_)))))))))))))
  obtain ⟨ab, aw, b⟩ := Zg b
  refine Za rfl rfl (Exec.index_rep S24 rfl t p (i.mono l) aw ?_)
  intro a7 aF ad
  refine Za rfl rfl (Zw (E := (encInt .i64)) j A3 rfl rfl rfl ad ?_)
  intro aK ax
  obtain rfl := encInt_val.1 ax
  refine Za rfl rfl (Zo (v := Vi (ab)) rfl rfl (Zb (Ze (Zd (Za rfl rfl (Zm (v := a) rfl ar (Za rfl rfl (Zm (v := g) rfl q (Za rfl rfl (Zm (v := Vi (ab)) rfl rfl ?_))))))))))
  obtain ⟨h, ay, b⟩ := Zg b
  refine Za rfl rfl (Exec.index_rep S24 rfl rfl rfl (ac.mono l) ay ?_)
  intro a8 aG ae
  refine Za rfl rfl (Zw (E := (encInt .i64)) j A3 rfl rfl rfl ae ?_)
  intro aL az
  obtain rfl := encInt_val.1 az
  refine Za rfl rfl (Exec.buildSlice (Te := 3) (cs := [Vi (h)]) j rfl (parts_cons (c := [Vi (h)]) (cells_of rfl rfl) parts_nil) (fun _ => by kernel_rfl) ?_)
  intro a9 aN aj
  obtain ⟨aE, a0, b⟩ := Zg b
  refine Za rfl rfl (Exec.append_box (E := (encInt .i64)) (ys := [h]) (aj).f1 S24 Z3 rfl (by decide) rfl rfl rfl rfl ⟨[Vi (h)], [], rfl, rfl, rfl⟩ rfl a0 ?_)
  intro aa aO ak
  refine Za rfl rfl (Zo (v := aa) rfl rfl (Zb (ib_normal (Ze (Zd (Za rfl rfl (Exec.add rfl p rfl (Za rfl rfl (Zm (v := Vi (IntKind.i64.wrap ((ao : Int) + 1))) rfl rfl (Zb (Ze ?_)))))))))))
  have aA := Zu b
  subst a2
  exact ⟨a3, aa, l, ak, q, rfl, t, u, (Eq.trans rfl (wrap_up an (SliceRep.le i)))⟩
 intro aD aP ah
 obtain ⟨aJ, a, ap, al, aH, au, aI, av, a5⟩ := ah
 refine Zc (Zd (Za rfl rfl (Zq rfl a5 av (Zb (Ze (Zc (W_false (Zx (decide_eq_false (by omega))) (W_exit (at_exit (at_exit (ib_here (Ze (Zc (Zd (Za rfl rfl (Zm (v := a) rfl au (Za rfl rfl (Zo (v := a) rfl rfl (Zb (Ze (W_ret ?_)))))))))))))))))))))
 have aB := Zu hm
 subst r
 refine ⟨_, ret1 rfl, ?_⟩
 obtain ⟨a4, aq, am, a1⟩ := al.freezeArr
 exact ⟨a4, a, (Zt ap aq), am, rfl, a1⟩
theorem F32_1 : tyField Try.prog 32 1 = some 1 := by kernel_rfl
theorem simplify_Map_expr_step {fu : Nat} (ih : ∀ {w0 w : World} {s : PHeap} {H : List Res} {g : simplify_Map} {a : GExpr} {h : Value} {i : Value} {j : Value} {l : Value} {r : GExpr} (hm : simplify_Map_expr_p fu g a = some r) (hS : St w0 s (H) w) (aq : SliceRep (encInt .i64) s h g.Atoms) (ai : SliceRep (encInt .i64) s i g.Fluents) (ar : SliceRep (encInt .i64) s j g.Ops) (ad : SliceRep encGExpr s l a.Kids), Calls Try.prog 81 #[Value.agg #[h, i, j], Value.agg #[Value.string (a.Op), Vi (a.N), l]] w fun e w' => ∃ v, e = .returned v ∧ ((fun (t : GExpr) => ∃ (q : PHeap) (ab : Value), PHeap.le s q ∧ St w0 q (H) w' ∧ v = Value.agg #[Value.string (t.Op), Vi (t.N), ab] ∧ SliceRep encGExpr q ab t.Kids) r)) {w0 w : World} {s : PHeap} {H : List Res} {g : simplify_Map} {a : GExpr} {h : Value} {i : Value} {j : Value} {l : Value} {r : GExpr} (hm : simplify_Map_expr_p (fu + 1) g a = some r) (hS : St w0 s (H) w) (aq : SliceRep (encInt .i64) s h g.Atoms) (ai : SliceRep (encInt .i64) s i g.Fluents) (ar : SliceRep (encInt .i64) s j g.Ops) (ad : SliceRep encGExpr s l a.Kids) :
  Calls Try.prog 81 #[Value.agg #[h, i, j], Value.agg #[Value.string (a.Op), Vi (a.N), l]] w fun e w' => ∃ v, e = .returned v ∧ ((fun (t : GExpr) => ∃ (q : PHeap) (ab : Value), PHeap.le s q ∧ St w0 q (H) w' ∧ v = Value.agg #[Value.string (t.Op), Vi (t.N), ab] ∧ SliceRep encGExpr q ab t.Kids) r) := by
 rw [simplify_Map_expr_p] at hm
 refine calls_of_W Try.func81 rfl rfl (Zc (Zd (Za rfl rfl (Exec.box (cs := [h, i, j]) hS rfl rfl rfl ?_))))
 intro ae b6 aF
 refine Za rfl rfl (Exec.box (cs := [Value.string (a.Op), Vi (a.N), l]) aF rfl rfl rfl ?_)
 intro au b7 aG
 refine Za rfl rfl (Exec.alloc (cs := [Value.string (⟨#[]⟩), Vi (0), Value.slice none 0 0]) aG Z82 rfl rfl ?_)
 intro af b8 aj
 refine Zb (Ze (Zc (Zd (Za rfl rfl (Zp F82_0 rfl rfl rfl (Za rfl rfl (Zn ((aj).f1) A9 rfl rfl rfl (Za rfl rfl (Zp F82_1 rfl rfl rfl (Za rfl rfl (Zn ((aj).f1) A3 rfl rfl rfl (Za rfl rfl (Exec.build rfl (parts_cons (c := [Value.string (a.Op)]) (cells_of rfl rfl) (parts_cons (c := [Vi (a.N)]) (cells_of rfl rfl) parts_nil)) (v := Value.agg #[Value.string (a.Op), Vi (a.N), Value.slice none 0 0]) (fun _ => by kernel_rfl) (Za rfl rfl (Exec.alloc (cs := [Value.string (⟨#[]⟩), Vi (0), Value.slice none 0 0]) aj Z82 rfl rfl ?_)))))))))))))))
 intro ag b9 aH
 refine Za rfl rfl (Exec.store_box (ds := [Value.string (a.Op), Vi (a.N), Value.slice none 0 0]) (es := [Value.string (a.Op), Vi (a.N), Value.slice none 0 0]) aH A82 rfl rfl rfl rfl (Zj rfl (Zj rfl (Zj rfl one_nil))) (Nat.le_of_ble_eq_true rfl) rfl ?_)
 intro bA u
 refine Zb (Ze (Zc (Zc (Zd (Za rfl rfl (Zp F82_0 rfl rfl rfl (Za rfl rfl (Zn ((u).f2) A9 rfl rfl rfl (Za rfl rfl (Exec.str_eql rfl rfl rfl (Zb (Ze ?_))))))))))))
 obtain ⟨d, o, hm⟩ := Zg hm
 refine W_mid (M := fun f' w' => (fun (d : Int) => ∃ (a5 : PHeap) , PHeap.le s a5 ∧ St w0 a5 (Res.box ae 32 [h, i, j] :: Res.box au 82 [Value.string (a.Op), Vi (a.N), l] :: Res.box af 82 [Value.string (⟨#[]⟩), Vi (0), Value.slice none 0 0] :: Res.box ag 82 [Value.string (a.Op), Vi (d), Value.slice none 0 0] :: H) w' ∧ f' 2 = Value.pointer (some ⟨ae, 0, none⟩) ∧ f' 3 = Value.pointer (some ⟨au, 0, none⟩) ∧ f' 4 = Value.pointer (some ⟨af, 0, none⟩) ∧ f' 5 = Value.pointer (some ⟨ag, 0, none⟩)) d) ?_ ?_
 ·rcases ite_some o with ⟨y, o⟩ | ⟨y, o⟩
  ·refine W_cond_t rfl y (Zd (Za rfl rfl (Zp F32_1 rfl rfl rfl (Za rfl rfl (Zn ((u).f3) A24 rfl rfl rfl (Za rfl rfl (Zp F82_1 rfl rfl rfl (Za rfl rfl (Zn ((u).f2) A3 rfl rfl rfl ?_)))))))))
   obtain ⟨a8, aZ, o⟩ := Zg o
   refine Za rfl rfl (Exec.index_rep S24 rfl rfl rfl ai aZ ?_)
   intro bl bx a9
   refine Za rfl rfl (Zw (E := (encInt .i64)) u A3 rfl rfl rfl a9 ?_)
   intro b4 ba
   obtain rfl := encInt_val.1 ba
   refine Za rfl rfl (Zp F82_1 rfl rfl rfl (Za rfl rfl (Exec.store_box (ds := [Vi (a8)]) (es := [Value.string (a.Op), Vi (a8), Value.slice none 0 0]) u A3 rfl rfl rfl rfl (Zj rfl one_nil) (Nat.le_of_ble_eq_true rfl) rfl ?_)))
   intro bB aI
   refine Zb (Ze ?_)
   have bp := Zu o
   subst d
   exact ⟨s, (Zv _), (((aI).f1).f2).f3, rfl, rfl, rfl, rfl⟩
  refine W_cond_f rfl y ?_
  replace y := Zk y
  refine W_skip (Ze ?_)
  have bq := Zu o
  subst d
  exact ⟨s, (Zv _), (((u).f1).f2).f3, rfl, rfl, rfl, rfl⟩
 intro bt bC aE
 obtain ⟨a6, p, av, aS, aT, aU, aV⟩ := aE
 refine (Ze (Zc (Zc (Zd (Za rfl rfl (Zp F82_2 rfl aT rfl (Za rfl rfl (Zn ((av).f1) A80 rfl rfl rfl (Za rfl rfl (Zr S80 rfl rfl (ad.mono p) (Za rfl rfl (Zm (v := Vi (0)) rfl rfl (Zb (Ze ?_))))))))))))))
 obtain ⟨ap, aB, hm⟩ := Zg hm
 refine W_block (W_forS (fun k' s' f' w' => (fun (ap : (List GExpr)) => ∃ (a7 : PHeap) (m : Value), PHeap.le a6 a7 ∧ St w0 a7 (Res.box ae 32 [h, i, j] :: Res.box af 82 [Value.string (⟨#[]⟩), Vi (0), Value.slice none 0 0] :: Res.box ag 82 [Value.string (a.Op), Vi (d), m] :: Res.arr encGExpr 82 m ap :: H) w' ∧ f' 2 = Value.pointer (some ⟨ae, 0, none⟩) ∧ f' 4 = Value.pointer (some ⟨af, 0, none⟩) ∧ f' 5 = Value.pointer (some ⟨ag, 0, none⟩) ∧ f' 24 = l ∧ f' 25 = Vi ((a.Kids.length : Int)) ∧ f' 26 = Vi (k' : Int)) s') aB ?_ ?_ ?_)
 ·have aJ := av.nilArr encGExpr 82
  exact ⟨a6, (Value.slice none 0 0), (Zv _), (((((aJ).f2).drop).f3).f3).f3, aS, aU, aV, rfl, rfl, rfl⟩
 ·intro aO ap bh bu bD aN aC n
  obtain ⟨b2, m, z, aw, a0, aW, aa, a1, a2, ao⟩ := aC
  refine Zc (Zd (Za rfl rfl (Zq rfl ao a2 (Zb (Ze (Zc (W_true (Zx (decide_eq_true (by omega))) (W_skip (Ze (Zc (W_block (Zc (Zd ?_)))))))))))))
  obtain ⟨x, bb, n⟩ := Zg n
  refine Za rfl rfl (Exec.index_rep S80 rfl a1 ao (ad.mono (Zt p z)) bb ?_)
  intro bm bz aA
  refine Za rfl rfl (Zw (E := encGExpr) aw A82 rfl rfl rfl aA ?_)
  intro b5 bc
  obtain ⟨am, rfl, a4⟩ := encGExpr_val.1 bc
  refine Za rfl rfl (Exec.alloc (cs := [Value.string (⟨#[]⟩), Vi (0), Value.slice none 0 0]) aw Z82 rfl rfl ?_)
  intro bn bE aK
  refine Za rfl rfl (Exec.store_box (ds := [Value.string (x.Op), Vi (x.N), am]) (es := [Value.string (x.Op), Vi (x.N), am]) aK A82 rfl rfl rfl rfl (Zj rfl (Zj rfl (Zj (a4).one one_nil))) (Nat.le_of_ble_eq_true rfl) rfl ?_)
  intro bF ah
  refine Zb (Ze (W_dl (n0 := 7) (qs 0 4 (.e 4 [0, 1] (.e 5 [0, 1] (.e 6 [] .done)))) hmix (by kernel_rfl) (by kernel_rfl) (DL_q rfl rfl (Zp F82_2 rfl aa rfl ⟨rfl, ?_⟩))))
  refine DL_q rfl rfl (Zn ((ah.drew).f3) A80 rfl rfl rfl ⟨rfl, ?_⟩)
  refine DL_q rfl rfl (Exec.load_box_agg (ds := [h, i, j]) ((ah.drew).f1) A32 rfl a0 rfl ⟨rfl, ?_⟩)
  refine DL_q rfl rfl (Exec.load_box_agg (ds := [Value.string (x.Op), Vi (x.N), am]) (ah.drew) A82 rfl rfl rfl ⟨rfl, ?_⟩)
  obtain ⟨b, bd, n⟩ := Zg n
  refine DL_e rfl rfl (Tc rfl rfl rfl (Zi rfl (Zi rfl args_nil)) (ih bd ah.drew (aq.mono (Zt p z)) (ai.mono (Zt p z)) (ar.mono (Zt p z)) a4).r ?_)
  rintro _ bG ⟨bi, ac, aP, ax, rfl, bf⟩
  refine ⟨(ag_cons (ag_r rfl rfl (Zp F82_2 rfl aa rfl ⟨rfl, rfl⟩)) (ag_cons (ag_r rfl rfl (Zn ((ax).f3) A80 rfl rfl rfl ⟨rfl, rfl⟩)) ag_nil)), ?_⟩
  refine DL_e rfl rfl (Exec.buildSlice (Te := 82) (cs := [Value.string (b.Op), Vi (b.N), ac]) ax rfl (parts_cons (c := [Value.string (b.Op), Vi (b.N), ac]) (cells_of rfl rfl) parts_nil) (fun _ => by kernel_rfl) ?_)
  intro bo bH ay
  refine ⟨(ag_cons (ag_r rfl rfl (Zp F82_2 rfl aa rfl ⟨rfl, rfl⟩)) (ag_cons (ag_r rfl rfl (Zn ((ay).f4) A80 rfl rfl rfl ⟨rfl, rfl⟩)) ag_nil)), ?_⟩
  obtain ⟨bw, be, n⟩ := Zg n
  refine DL_e rfl rfl (Exec.append_box (E := encGExpr) (ys := [b]) (ay).f5 S80 Z82 rfl (by decide) rfl rfl rfl rfl ⟨[Value.string (b.Op), Vi (b.N), ac], [], rfl, ((encGExpr_iff _ _ _).2 ⟨[Value.string (b.Op)], [Vi (b.N), ac], rfl, rfl, ⟨[Vi (b.N)], [ac], rfl, rfl, ⟨_, rfl, bf⟩⟩⟩), rfl⟩ rfl be ?_)
  intro an bI ak
  refine ⟨ag_nil, ?_⟩
  refine DL_done (Za rfl rfl (Zp F82_2 rfl aa rfl (Za rfl rfl (Exec.store_box (ds := [an]) (es := [Value.string (a.Op), Vi (d), an]) (ak).f4 A80 rfl rfl rfl (cells_one (((ak).f4).f1).arr_one) (Zj (((ak).f4).f1).arr_one one_nil) (Nat.le_of_ble_eq_true rfl) rfl ?_))))
  intro bJ aL
  refine Zb (ib_normal (Ze (Zd (Za rfl rfl (Exec.add rfl ao rfl (Za rfl rfl (Zm (v := Vi (IntKind.i64.wrap ((aO : Int) + 1))) rfl rfl (Zb (Ze ?_)))))))))
  have br := Zu n
  subst bh
  exact ⟨bi, an, (Zt z aP), ((((((aL).f2).drop).f1).f1).f3).f3, a0, aW, aa, a1, a2, (Eq.trans rfl (wrap_up aN (SliceRep.le (ad.mono p))))⟩
 intro bv bK aD
 obtain ⟨b3, m, aQ, al, b0, a3, aX, b1, aY, bk⟩ := aD
 refine Zc (Zd (Za rfl rfl (Zq rfl bk aY (Zb (Ze (Zc (W_false (Zx (decide_eq_false (by omega))) (W_exit (at_exit (at_exit (ib_here (Ze (Zc (Zd (Za rfl rfl (Exec.load_box_agg (ds := [Value.string (a.Op), Vi (d), m]) ((al).f2) A82 rfl aX rfl (Za rfl rfl (Exec.store_box (ds := [Value.string (a.Op), Vi (d), m]) (es := [Value.string (a.Op), Vi (d), m]) (al).f1 A82 rfl a3 rfl rfl (Zj rfl (Zj rfl (Zj (((al).f1).f3).arr_one one_nil))) (Nat.le_of_ble_eq_true rfl) rfl ?_))))))))))))))))))
 intro bL az
 refine Zb (Ze (W_ret ?_))
 have bs := Zu hm
 subst r
 refine ⟨_, retG1 rfl ⟨_, _, a3, cellRes (az) A82⟩, ?_⟩
 obtain ⟨bj, aR, aM, bg⟩ := (az).f3.freezeArr
 exact ⟨bj, m, (Zt (Zt p aQ) aR), (((aM).drop).drop).drop, rfl, bg⟩
theorem simplify_Map_expr_sim {fu : Nat} : ∀ {w0 w : World} {s : PHeap} {H : List Res} {b : simplify_Map} {a : GExpr} {f : Value} {g : Value} {h : Value} {i : Value} {r : GExpr} (hm : simplify_Map_expr_p fu b a = some r) (hS : St w0 s (H) w) (k : SliceRep (encInt .i64) s f b.Atoms) (l : SliceRep (encInt .i64) s g b.Fluents) (m : SliceRep (encInt .i64) s h b.Ops) (n : SliceRep encGExpr s i a.Kids), Calls Try.prog 81 #[Value.agg #[f, g, h], Value.agg #[Value.string (a.Op), Vi (a.N), i]] w fun e w' => ∃ v, e = .returned v ∧ ((fun (d : GExpr) => ∃ (c : PHeap) (j : Value), PHeap.le s c ∧ St w0 c (H) w' ∧ v = Value.agg #[Value.string (d.Op), Vi (d.N), j] ∧ SliceRep encGExpr c j d.Kids) r) := by
 induction fu with
 | zero => intros; rename_i hm _ _ _ _ _; rw [simplify_Map_expr_p] at hm; cases hm
 | succ fu ih => exact simplify_Map_expr_step ih
theorem simplify_Map_cond_sim {w0 w : World} {s : PHeap} {H : List Res} {fu : Nat} {ay : simplify_Map} {ag : Cond} {p : Value} {t : Value} {u : Value} {a3 : Value} {a4 : Value} {an : Value} {r : Cond} (hm : simplify_Map_cond_p fu ay ag = some r) (hS : St w0 s (H) w) (y : SliceRep (encInt .i64) s p ay.Atoms) (aN : SliceRep (encInt .i64) s t ay.Fluents) (aO : SliceRep (encInt .i64) s u ay.Ops) (aP : SliceRep (encInt .i64) s a3 ag.Pos) (a5 : SliceRep (encInt .i64) s a4 ag.Neg) (a6 : SliceRep encGTest s an ag.Tests) :
  Calls Try.prog 37 #[Value.agg #[p, t, u], Value.agg #[a3, a4, an]] w fun e w' => ∃ v, e = .returned v ∧ ((fun (aL : Cond) => ∃ (am : PHeap) (bg : Value) (bh : Value) (bi : Value), PHeap.le s am ∧ St w0 am (H) w' ∧ v = Value.agg #[bg, bh, bi] ∧ SliceRep (encInt .i64) am bg aL.Pos ∧ SliceRep (encInt .i64) am bh aL.Neg ∧ SliceRep encGTest am bi aL.Tests) r) := by
 unfold simplify_Map_cond_p at hm
 refine calls_of_W Try.func37 rfl rfl (Zc (Zd (Za rfl rfl (Exec.box (cs := [p, t, u]) hS rfl rfl rfl ?_))))
 intro ar cp br
 refine Za rfl rfl (Exec.box (cs := [a3, a4, an]) br rfl rfl rfl ?_)
 intro aQ cq bs
 refine Za rfl rfl (Exec.alloc (cs := [Value.slice none 0 0, Value.slice none 0 0, Value.slice none 0 0]) bs Z47 rfl rfl ?_)
 intro au cr bt
 refine Zb (Ze (Zc ?_))
 obtain ⟨bV, bb, hm⟩ := Zg hm
 obtain ⟨bW, aE, hm⟩ := Zg hm
 refine W_mid (M := fun f' w' => ∃ (a1 : PHeap) (j : Value) (l : Value) (af : Nat), PHeap.le s a1 ∧ St w0 a1 (Res.box ar 32 [p, t, u] :: Res.box aQ 47 [a3, a4, an] :: Res.box au 47 [Value.slice none 0 0, Value.slice none 0 0, Value.slice none 0 0] :: Res.box af 47 [j, l, Value.slice none 0 0] :: H) w' ∧ f' 2 = Value.pointer (some ⟨ar, 0, none⟩) ∧ f' 3 = Value.pointer (some ⟨aQ, 0, none⟩) ∧ f' 4 = Value.pointer (some ⟨au, 0, none⟩) ∧ f' 5 = Value.pointer (some ⟨af, 0, none⟩) ∧ SliceRep (encInt .i64) a1 j bV ∧ SliceRep (encInt .i64) a1 l bW) ?_ ?_
 ·refine W_dl (n0 := 12) (qs 0 4 (qs 5 4 (.alt (.e 4 [5, 6, 7, 8] (.alt (.e 9 [] (.q 10 (.e 11 [10] .done))) (.e 11 [5, 6, 7, 8] (.e 9 [] (.q 10 .done))))) (.e 11 [0, 1, 2, 3, 5, 6, 7, 8] (.e 4 [5, 6, 7, 8] (.e 9 [] (.q 10 .done))))))) hmix (by kernel_rfl) (by kernel_rfl) ?_
  have ac := bt.drew
  refine DL_q rfl rfl (Zp F47_0 rfl rfl rfl ⟨rfl, ?_⟩)
  refine DL_q rfl rfl (Zn ((ac).f1) A24 rfl rfl rfl ⟨rfl, ?_⟩)
  refine DL_q rfl rfl (Zp F32_0 rfl rfl rfl ⟨rfl, ?_⟩)
  refine DL_q rfl rfl (Zn ((ac).f2) A24 rfl rfl rfl ⟨rfl, ?_⟩)
  refine DL_q rfl rfl (Zp F47_1 rfl rfl rfl ⟨rfl, ?_⟩)
  refine DL_q rfl rfl (Zn ((ac).f1) A24 rfl rfl rfl ⟨rfl, ?_⟩)
  refine DL_q rfl rfl (Zp F32_0 rfl rfl rfl ⟨rfl, ?_⟩)
  refine DL_q rfl rfl (Zn ((ac).f2) A24 rfl rfl rfl ⟨rfl, ?_⟩)
  refine DL_alt ?_ ?_
  ·refine DL_e rfl rfl (Tc rfl rfl rfl (Zi rfl (Zi rfl args_nil)) (simplify_along_sim bb ac aP y).r ?_)
   rintro g ct ⟨cj, _, ad, av, rfl, aa⟩
   refine ⟨(ag_cons (ag_r rfl rfl (Zp F47_1 rfl rfl rfl ⟨rfl, rfl⟩)) (ag_cons (ag_r rfl rfl (Zn ((av).f1) A24 rfl rfl rfl ⟨rfl, rfl⟩)) (ag_cons (ag_r rfl rfl (Zp F32_0 rfl rfl rfl ⟨rfl, rfl⟩)) (ag_cons (ag_r rfl rfl (Zn ((av).f2) A24 rfl rfl rfl ⟨rfl, rfl⟩)) ag_nil)))), ?_⟩
   refine DL_alt ?_ ?_
   ·refine DL_e rfl rfl (Tc rfl rfl rfl (Zi rfl (Zi rfl args_nil)) (simplify_along_sim aE av (a5.mono ad) (y.mono ad)).r ?_)
    rintro ab cu ⟨bO, _, aj, bu, rfl, a0⟩
    refine ⟨ag_nil, ?_⟩
    refine DL_q rfl rfl (Exec.build rfl (parts_cons (c := [g]) (cells_of rfl (cells_one ((aa.mono aj)).one)) (parts_cons (c := [ab]) (cells_of rfl (cells_one (a0).one)) parts_nil)) (v := Value.agg #[g, ab, Value.slice none 0 0]) (fun _ => by kernel_rfl) ⟨rfl, ?_⟩)
    refine DL_e rfl rfl (Exec.alloc (cs := [Value.slice none 0 0, Value.slice none 0 0, Value.slice none 0 0]) bu Z47 rfl rfl ?_)
    intro bk cv bv
    refine ⟨(ag_cons (ag_r rfl rfl (Exec.build rfl (parts_cons (c := [g]) (cells_of rfl (cells_one ((aa.mono aj)).one)) (parts_cons (c := [ab]) (cells_of rfl (cells_one (a0).one)) parts_nil)) (v := Value.agg #[g, ab, Value.slice none 0 0]) (fun _ => by kernel_rfl) ⟨rfl, rfl⟩)) ag_nil), ?_⟩
    refine DL_done (Za rfl rfl (Exec.store_box (ds := [g, ab, Value.slice none 0 0]) (es := [g, ab, Value.slice none 0 0]) bv A47 rfl rfl rfl rfl (Zj ((aa.mono aj)).one (Zj (a0).one (Zj rfl one_nil))) (Nat.le_of_ble_eq_true rfl) rfl ?_))
    intro cw bw
    refine Zb (Ze ?_)
    exact ⟨bO, g, ab, bk, (Zt ad aj), (((bw).f1).f2).f3, rfl, rfl, rfl, rfl, (aa.mono aj), a0⟩
   refine DL_e rfl rfl (Exec.alloc (cs := [Value.slice none 0 0, Value.slice none 0 0, Value.slice none 0 0]) av Z47 rfl rfl ?_)
   intro bl cx a7
   refine ⟨(ag_cons (ag_r rfl rfl (Zp F47_1 rfl rfl rfl ⟨rfl, rfl⟩)) (ag_cons (ag_r rfl rfl (Zn ((a7).f2) A24 rfl rfl rfl ⟨rfl, rfl⟩)) (ag_cons (ag_r rfl rfl (Zp F32_0 rfl rfl rfl ⟨rfl, rfl⟩)) (ag_cons (ag_r rfl rfl (Zn ((a7).f3) A24 rfl rfl rfl ⟨rfl, rfl⟩)) ag_nil)))), ?_⟩
   refine DL_e rfl rfl (Tc rfl rfl rfl (Zi rfl (Zi rfl args_nil)) (simplify_along_sim aE a7 (a5.mono ad) (y.mono ad)).r ?_)
   rintro ao cy ⟨bP, _, aw, bx, rfl, aF⟩
   refine ⟨ag_nil, ?_⟩
   refine DL_q rfl rfl (Exec.build rfl (parts_cons (c := [g]) (cells_of rfl (cells_one ((aa.mono aw)).one)) (parts_cons (c := [ao]) (cells_of rfl (cells_one (aF).one)) parts_nil)) (v := Value.agg #[g, ao, Value.slice none 0 0]) (fun _ => by kernel_rfl) ⟨rfl, ?_⟩)
   refine DL_done (Za rfl rfl (Exec.store_box (ds := [g, ao, Value.slice none 0 0]) (es := [g, ao, Value.slice none 0 0]) bx A47 rfl rfl rfl rfl (Zj ((aa.mono aw)).one (Zj (aF).one (Zj rfl one_nil))) (Nat.le_of_ble_eq_true rfl) rfl ?_))
   intro cz bz
   refine Zb (Ze ?_)
   exact ⟨bP, g, ao, bl, (Zt ad aw), (((bz).f1).f2).f3, rfl, rfl, rfl, rfl, (aa.mono aw), aF⟩
  refine DL_e rfl rfl (Exec.alloc (cs := [Value.slice none 0 0, Value.slice none 0 0, Value.slice none 0 0]) ac Z47 rfl rfl ?_)
  intro bm c0 ah
  refine ⟨(ag_cons (ag_r rfl rfl (Zp F47_0 rfl rfl rfl ⟨rfl, rfl⟩)) (ag_cons (ag_r rfl rfl (Zn ((ah).f2) A24 rfl rfl rfl ⟨rfl, rfl⟩)) (ag_cons (ag_r rfl rfl (Zp F32_0 rfl rfl rfl ⟨rfl, rfl⟩)) (ag_cons (ag_r rfl rfl (Zn ((ah).f3) A24 rfl rfl rfl ⟨rfl, rfl⟩)) (ag_cons (ag_r rfl rfl (Zp F47_1 rfl rfl rfl ⟨rfl, rfl⟩)) (ag_cons (ag_r rfl rfl (Zn ((ah).f2) A24 rfl rfl rfl ⟨rfl, rfl⟩)) (ag_cons (ag_r rfl rfl (Zp F32_0 rfl rfl rfl ⟨rfl, rfl⟩)) (ag_cons (ag_r rfl rfl (Zn ((ah).f3) A24 rfl rfl rfl ⟨rfl, rfl⟩)) ag_nil)))))))), ?_⟩
  refine DL_e rfl rfl (Tc rfl rfl rfl (Zi rfl (Zi rfl args_nil)) (simplify_along_sim bb ah aP y).r ?_)
  rintro ap c1 ⟨ck, _, aC, a8, rfl, aG⟩
  refine ⟨(ag_cons (ag_r rfl rfl (Zp F47_1 rfl rfl rfl ⟨rfl, rfl⟩)) (ag_cons (ag_r rfl rfl (Zn ((a8).f2) A24 rfl rfl rfl ⟨rfl, rfl⟩)) (ag_cons (ag_r rfl rfl (Zp F32_0 rfl rfl rfl ⟨rfl, rfl⟩)) (ag_cons (ag_r rfl rfl (Zn ((a8).f3) A24 rfl rfl rfl ⟨rfl, rfl⟩)) ag_nil)))), ?_⟩
  refine DL_e rfl rfl (Tc rfl rfl rfl (Zi rfl (Zi rfl args_nil)) (simplify_along_sim aE a8 (a5.mono aC) (y.mono aC)).r ?_)
  rintro aq c2 ⟨bQ, _, ax, b0, rfl, aH⟩
  refine ⟨ag_nil, ?_⟩
  refine DL_q rfl rfl (Exec.build rfl (parts_cons (c := [ap]) (cells_of rfl (cells_one ((aG.mono ax)).one)) (parts_cons (c := [aq]) (cells_of rfl (cells_one (aH).one)) parts_nil)) (v := Value.agg #[ap, aq, Value.slice none 0 0]) (fun _ => by kernel_rfl) ⟨rfl, ?_⟩)
  refine DL_done (Za rfl rfl (Exec.store_box (ds := [ap, aq, Value.slice none 0 0]) (es := [ap, aq, Value.slice none 0 0]) b0 A47 rfl rfl rfl rfl (Zj ((aG.mono ax)).one (Zj (aH).one (Zj rfl one_nil))) (Nat.le_of_ble_eq_true rfl) rfl ?_))
  intro c3 b1
  refine Zb (Ze ?_)
  exact ⟨bQ, ap, aq, bm, (Zt aC ax), (((b1).f1).f2).f3, rfl, rfl, rfl, rfl, (aG.mono ax), aH⟩
 intro cc c4 bq
 obtain ⟨be, j, l, af, h, aR, b9, bA, bB, bC, aV, aW⟩ := bq
 refine (Ze (Zc (Zc (Zd (Za rfl rfl (Zp F47_2 rfl bA rfl (Za rfl rfl (Zn ((aR).f1) A45 rfl rfl rfl (Za rfl rfl (Zr S45 rfl rfl (a6.mono h) (Za rfl rfl (Zm (v := Vi (0)) rfl rfl (Zb (Ze ?_))))))))))))))
 obtain ⟨aM, bn, hm⟩ := Zg hm
 refine W_block (W_forS (fun k' s' f' w' => (fun (aM : (List GTest)) => ∃ (bf : PHeap) (x : Value), PHeap.le be bf ∧ St w0 bf (Res.box ar 32 [p, t, u] :: Res.box au 47 [Value.slice none 0 0, Value.slice none 0 0, Value.slice none 0 0] :: Res.box af 47 [j, l, x] :: Res.arr encGTest 129 x aM :: H) w' ∧ f' 2 = Value.pointer (some ⟨ar, 0, none⟩) ∧ f' 4 = Value.pointer (some ⟨au, 0, none⟩) ∧ f' 5 = Value.pointer (some ⟨af, 0, none⟩) ∧ f' 20 = an ∧ f' 21 = Vi ((ag.Tests.length : Int)) ∧ f' 22 = Vi (k' : Int)) s') bn ?_ ?_ ?_)
 ·have b2 := aR.nilArr encGTest 129
  exact ⟨be, (Value.slice none 0 0), (Zv _), (((((b2).f2).drop).f3).f3).f3, b9, bB, bC, rfl, rfl, rfl⟩
 ·intro b8 aM bR cd c5 b7 bo i
  obtain ⟨cl, x, o, aS, az, bD, ae, aY, aZ, aK⟩ := bo
  refine Zc (Zd (Za rfl rfl (Zq rfl aK aZ (Zb (Ze (Zc (W_true (Zx (decide_eq_true (by omega))) (W_skip (Ze (Zc (W_block (Zc (Zd ?_)))))))))))))
  obtain ⟨a, bG, i⟩ := Zg i
  refine Za rfl rfl (Exec.index_rep S45 rfl aY aK (a6.mono (Zt h o)) bG ?_)
  intro bX cg bj
  refine Za rfl rfl (Zw (E := encGTest) aS A129 rfl rfl rfl bj ?_)
  intro co bH
  obtain ⟨aI, a2, rfl, bc, bd⟩ := encGTest_val.1 bH
  refine Za rfl rfl (Exec.alloc (cs := [Value.string (⟨#[]⟩), Value.string (⟨#[]⟩), Vi (0), Value.slice none 0 0, Value.string (⟨#[]⟩), Vi (0), Value.slice none 0 0]) aS Z129 rfl rfl ?_)
  intro bY c6 b3
  refine Za rfl rfl (Exec.store_box (ds := [Value.string (a.Op), Value.string (a.A.Op), Vi (a.A.N), aI, Value.string (a.B.Op), Vi (a.B.N), a2]) (es := [Value.string (a.Op), Value.string (a.A.Op), Vi (a.A.N), aI, Value.string (a.B.Op), Vi (a.B.N), a2]) b3 A129 rfl rfl rfl rfl (Zj rfl (Zj rfl (Zj rfl (Zj (bc).one (Zj rfl (Zj rfl (Zj (bd).one one_nil))))))) (Nat.le_of_ble_eq_true rfl) rfl ?_)
  intro c7 b4
  refine Zb (Ze (W_dl (n0 := 15) (qs 0 7 (qs 8 3 (.e 7 [0, 1, 2, 3, 8, 9, 10] (.e 11 [0, 1, 2, 3] (.q 12 (.e 13 [0, 1] (.e 14 [] .done))))))) hmix (by kernel_rfl) (by kernel_rfl) ?_))
  have z := b4.drew
  refine DL_q rfl rfl (Zp F47_2 rfl ae rfl ⟨rfl, ?_⟩)
  refine DL_q rfl rfl (Zn ((z).f3) A45 rfl rfl rfl ⟨rfl, ?_⟩)
  refine DL_q rfl rfl (Zp F129_0 rfl rfl rfl ⟨rfl, ?_⟩)
  refine DL_q rfl rfl (Zn (z) A9 rfl rfl rfl ⟨rfl, ?_⟩)
  refine DL_q rfl rfl (Exec.load_box_agg (ds := [p, t, u]) ((z).f1) A32 rfl az rfl ⟨rfl, ?_⟩)
  refine DL_q rfl rfl (Zp F129_1 rfl rfl rfl ⟨rfl, ?_⟩)
  refine DL_q rfl rfl (Exec.load_box_agg (ds := [Value.string (a.A.Op), Vi (a.A.N), aI]) (z) A82 rfl rfl rfl ⟨rfl, ?_⟩)
  refine DL_q rfl rfl (Exec.load_box_agg (ds := [p, t, u]) ((z).f1) A32 rfl az rfl ⟨rfl, ?_⟩)
  refine DL_q rfl rfl (Zp F129_2 rfl rfl rfl ⟨rfl, ?_⟩)
  refine DL_q rfl rfl (Exec.load_box_agg (ds := [Value.string (a.B.Op), Vi (a.B.N), a2]) (z) A82 rfl rfl rfl ⟨rfl, ?_⟩)
  obtain ⟨b, bI, i⟩ := Zg i
  refine DL_e rfl rfl (Tc rfl rfl rfl (Zi rfl (Zi rfl args_nil)) (simplify_Map_expr_sim bI z (y.mono (Zt h o)) (aN.mono (Zt h o)) (aO.mono (Zt h o)) bc).r ?_)
  rintro _ c8 ⟨cm, m, ak, ai, rfl, bL⟩
  refine ⟨(ag_cons (ag_r rfl rfl (Zp F47_2 rfl ae rfl ⟨rfl, rfl⟩)) (ag_cons (ag_r rfl rfl (Zn ((ai).f3) A45 rfl rfl rfl ⟨rfl, rfl⟩)) (ag_cons (ag_r rfl rfl (Zp F129_0 rfl rfl rfl ⟨rfl, rfl⟩)) (ag_cons (ag_r rfl rfl (Zn (ai) A9 rfl rfl rfl ⟨rfl, rfl⟩)) (ag_cons (ag_r rfl rfl (Exec.load_box_agg (ds := [p, t, u]) ((ai).f1) A32 rfl az rfl ⟨rfl, rfl⟩)) (ag_cons (ag_r rfl rfl (Zp F129_2 rfl rfl rfl ⟨rfl, rfl⟩)) (ag_cons (ag_r rfl rfl (Exec.load_box_agg (ds := [Value.string (a.B.Op), Vi (a.B.N), a2]) (ai) A82 rfl rfl rfl ⟨rfl, rfl⟩)) ag_nil))))))), ?_⟩
  obtain ⟨d, bJ, i⟩ := Zg i
  refine DL_e rfl rfl (Tc rfl rfl rfl (Zi rfl (Zi rfl args_nil)) (simplify_Map_expr_sim bJ ai (y.mono (Zt (Zt h o) ak)) (aN.mono (Zt (Zt h o) ak)) (aO.mono (Zt (Zt h o) ak)) (bd.mono ak)).r ?_)
  rintro _ c9 ⟨bS, n, aX, a9, rfl, bM⟩
  refine ⟨(ag_cons (ag_r rfl rfl (Zp F47_2 rfl ae rfl ⟨rfl, rfl⟩)) (ag_cons (ag_r rfl rfl (Zn ((a9).f3) A45 rfl rfl rfl ⟨rfl, rfl⟩)) (ag_cons (ag_r rfl rfl (Zp F129_0 rfl rfl rfl ⟨rfl, rfl⟩)) (ag_cons (ag_r rfl rfl (Zn (a9) A9 rfl rfl rfl ⟨rfl, rfl⟩)) ag_nil)))), ?_⟩
  refine DL_q rfl rfl (Exec.build rfl (parts_cons (c := [Value.string (a.Op)]) (cells_of rfl rfl) (parts_cons (c := [Value.string (b.Op), Vi (b.N), m]) (cells_of rfl rfl) (parts_cons (c := [Value.string (d.Op), Vi (d.N), n]) (cells_of rfl rfl) parts_nil))) (v := Value.agg #[Value.string (a.Op), Value.string (b.Op), Vi (b.N), m, Value.string (d.Op), Vi (d.N), n]) (fun _ => by kernel_rfl) ⟨rfl, ?_⟩)
  refine DL_e rfl rfl (Exec.buildSlice (Te := 129) (cs := [Value.string (a.Op), Value.string (b.Op), Vi (b.N), m, Value.string (d.Op), Vi (d.N), n]) a9 rfl (parts_cons (c := [Value.string (a.Op), Value.string (b.Op), Vi (b.N), m, Value.string (d.Op), Vi (d.N), n]) (cells_of rfl rfl) parts_nil) (fun _ => by kernel_rfl) ?_)
  intro bZ cA aT
  refine ⟨(ag_cons (ag_r rfl rfl (Zp F47_2 rfl ae rfl ⟨rfl, rfl⟩)) (ag_cons (ag_r rfl rfl (Zn ((aT).f4) A45 rfl rfl rfl ⟨rfl, rfl⟩)) ag_nil)), ?_⟩
  obtain ⟨cf, bK, i⟩ := Zg i
  refine DL_e rfl rfl (Exec.append_box (E := encGTest) (ys := [(⟨a.Op, b, d⟩ : GTest)]) (aT).f5 S45 Z129 rfl (by decide) rfl rfl rfl rfl ⟨[Value.string (a.Op), Value.string (b.Op), Vi (b.N), m, Value.string (d.Op), Vi (d.N), n], [], rfl, ⟨[Value.string (a.Op)], [Value.string (b.Op), Vi (b.N), m, Value.string (d.Op), Vi (d.N), n], rfl, rfl, ⟨[Value.string (b.Op), Vi (b.N), m], [Value.string (d.Op), Vi (d.N), n], rfl, ((encGExpr_iff _ _ _).2 ⟨[Value.string (b.Op)], [Vi (b.N), m], rfl, rfl, ⟨[Vi (b.N)], [m], rfl, rfl, ⟨_, rfl, (bL.mono aX)⟩⟩⟩), ((encGExpr_iff _ _ _).2 ⟨[Value.string (d.Op)], [Vi (d.N), n], rfl, rfl, ⟨[Vi (d.N)], [n], rfl, rfl, ⟨_, rfl, bM⟩⟩⟩)⟩⟩, rfl⟩ rfl bK ?_)
  intro aJ cB aA
  refine ⟨ag_nil, ?_⟩
  refine DL_done (Za rfl rfl (Zp F47_2 rfl ae rfl (Za rfl rfl (Exec.store_box (ds := [aJ]) (es := [j, l, aJ]) (aA).f4 A45 rfl rfl rfl (cells_one (((aA).f4).f1).arr_one) (Zj (((aA).f4).f1).arr_one one_nil) (Nat.le_of_ble_eq_true rfl) rfl ?_))))
  intro cC b5
  refine Zb (ib_normal (Ze (Zd (Za rfl rfl (Exec.add rfl aK rfl (Za rfl rfl (Zm (v := Vi (IntKind.i64.wrap ((b8 : Int) + 1))) rfl rfl (Zb (Ze ?_)))))))))
  have ca := Zu i
  subst bR
  exact ⟨bS, aJ, (Zt (Zt o ak) aX), ((((((b5).f2).drop).f1).f1).f3).f3, az, bD, ae, aY, aZ, (Eq.trans rfl (wrap_up b7 (SliceRep.le (a6.mono h))))⟩
 intro ce cD bp
 obtain ⟨cn, x, al, aB, ch, ba, bE, ci, bF, bU⟩ := bp
 refine Zc (Zd (Za rfl rfl (Zq rfl bU bF (Zb (Ze (Zc (W_false (Zx (decide_eq_false (by omega))) (W_exit (at_exit (at_exit (ib_here (Ze (Zc (Zd (Za rfl rfl (Exec.load_box_agg (ds := [j, l, x]) ((aB).f2) A47 rfl bE rfl (Za rfl rfl (Exec.store_box (ds := [j, l, x]) (es := [j, l, x]) (aB).f1 A47 rfl ba rfl rfl (Zj ((aV.mono al)).one (Zj ((aW.mono al)).one (Zj (((aB).f1).f3).arr_one one_nil))) (Nat.le_of_ble_eq_true rfl) rfl ?_))))))))))))))))))
 intro cE aU
 refine Zb (Ze (W_ret ?_))
 have cb := Zu hm
 subst r
 refine ⟨_, retG1 rfl ⟨_, _, ba, cellRes (aU) A47⟩, ?_⟩
 obtain ⟨bT, aD, b6, bN⟩ := (aU).f3.freezeArr
 exact ⟨bT, j, l, x, (Zt (Zt h al) aD), (((b6).drop).drop).drop, rfl, (aV.mono (Zt al aD)), (aW.mono (Zt al aD)), bN⟩
theorem F58_2 : tyField Try.prog 58 2 = some 4 := by kernel_rfl
theorem simplify_Map_operator_sim {w0 w : World} {s : PHeap} {H : List Res} {fu : Nat} {aL : simplify_Map} {a : GOp} {n : Value} {o : Value} {p : Value} {ab : Value} {ac : Value} {ad : Value} {ae : Value} {aq : Value} {r : GOp} (hm : simplify_Map_operator_p fu aL a = some r) (hS : St w0 s (H) w) (az : SliceRep (encInt .i64) s n aL.Atoms) (a6 : SliceRep (encInt .i64) s o aL.Fluents) (aI : SliceRep (encInt .i64) s p aL.Ops) (bi : SliceRep (encInt .i64) s ab a.Pre.Pos) (bj : SliceRep (encInt .i64) s ac a.Pre.Neg) (bk : SliceRep encGTest s ad a.Pre.Tests) (aQ : SliceRep encGChange s ae a.Changes) (aR : SliceRep encGAssign s aq a.Assigns) :
  Calls Try.prog 82 #[Value.agg #[n, o, p], Value.agg #[Value.string (a.Name), Vi (a.Cost), ab, ac, ad, ae, aq]] w fun e w' => ∃ v, e = .returned v ∧ ((fun (ay : GOp) => ∃ (ap : PHeap) (bP : Value) (bQ : Value) (bR : Value) (bS : Value) (bT : Value), PHeap.le s ap ∧ St w0 ap (H) w' ∧ v = Value.agg #[Value.string (ay.Name), Vi (ay.Cost), bP, bQ, bR, bS, bT] ∧ SliceRep (encInt .i64) ap bP ay.Pre.Pos ∧ SliceRep (encInt .i64) ap bQ ay.Pre.Neg ∧ SliceRep encGTest ap bR ay.Pre.Tests ∧ SliceRep encGChange ap bS ay.Changes ∧ SliceRep encGAssign ap bT ay.Assigns) r) := by
 unfold simplify_Map_operator_p at hm
 refine calls_of_W Try.func82 rfl rfl (Zc (Zd (Za rfl rfl (Exec.box (cs := [n, o, p]) hS rfl rfl rfl ?_))))
 intro y dU cj
 refine Za rfl rfl (Exec.box (cs := [Value.string (a.Name), Vi (a.Cost), ab, ac, ad, ae, aq]) cj rfl rfl rfl ?_)
 intro a0 dV ck
 refine Za rfl rfl (Exec.alloc (cs := [Value.string (⟨#[]⟩), Vi (0), Value.slice none 0 0, Value.slice none 0 0, Value.slice none 0 0, Value.slice none 0 0, Value.slice none 0 0]) ck Z51 rfl rfl ?_)
 intro z dW cl
 refine Zb (Ze (Zc ?_))
 obtain ⟨bg, b7, hm⟩ := Zg hm
 refine W_mid (M := fun f' w' => ∃ (aE : PHeap) (h : Value) (i : Value) (j : Value) (t : Nat), PHeap.le s aE ∧ St w0 aE (Res.box y 32 [n, o, p] :: Res.box a0 51 [Value.string (a.Name), Vi (a.Cost), ab, ac, ad, ae, aq] :: Res.box z 51 [Value.string (⟨#[]⟩), Vi (0), Value.slice none 0 0, Value.slice none 0 0, Value.slice none 0 0, Value.slice none 0 0, Value.slice none 0 0] :: Res.box t 51 [Value.string (a.Name), Vi (a.Cost), h, i, j, Value.slice none 0 0, Value.slice none 0 0] :: H) w' ∧ f' 2 = Value.pointer (some ⟨y, 0, none⟩) ∧ f' 3 = Value.pointer (some ⟨a0, 0, none⟩) ∧ f' 4 = Value.pointer (some ⟨z, 0, none⟩) ∧ f' 5 = Value.pointer (some ⟨t, 0, none⟩) ∧ SliceRep (encInt .i64) aE h bg.Pos ∧ SliceRep (encInt .i64) aE i bg.Neg ∧ SliceRep encGTest aE j bg.Tests) ?_ ?_
 ·refine W_dl (n0 := 10) (qs 0 7 (.alt (.e 7 [0, 1, 2, 3] (.q 8 (.e 9 [0, 1, 2, 3, 8] .done))) (.e 9 [0, 1, 2, 3, 4, 5, 6] (.e 7 [0, 1, 2, 3] (.q 8 .done))))) hmix (by kernel_rfl) (by kernel_rfl) ?_
  have a1 := cl.drew
  refine DL_q rfl rfl (Zp F51_0 rfl rfl rfl ⟨rfl, ?_⟩)
  refine DL_q rfl rfl (Zn ((a1).f1) A9 rfl rfl rfl ⟨rfl, ?_⟩)
  refine DL_q rfl rfl (Zp F51_1 rfl rfl rfl ⟨rfl, ?_⟩)
  refine DL_q rfl rfl (Zn ((a1).f1) A3 rfl rfl rfl ⟨rfl, ?_⟩)
  refine DL_q rfl rfl (Exec.load_box_agg (ds := [n, o, p]) ((a1).f2) A32 rfl rfl rfl ⟨rfl, ?_⟩)
  refine DL_q rfl rfl (Zp F51_2 rfl rfl rfl ⟨rfl, ?_⟩)
  refine DL_q rfl rfl (Exec.load_box_agg (ds := [ab, ac, ad]) ((a1).f1) A47 rfl rfl rfl ⟨rfl, ?_⟩)
  refine DL_alt ?_ ?_
  ·refine DL_e rfl rfl (Tc rfl rfl rfl (Zi rfl (Zi rfl args_nil)) (simplify_Map_cond_sim b7 a1 az a6 aI bi bj bk).r ?_)
   rintro _ dX ⟨df, ar, au, av, c2, aS, rfl, b9, bA, bB⟩
   refine ⟨(ag_cons (ag_r rfl rfl (Zp F51_0 rfl rfl rfl ⟨rfl, rfl⟩)) (ag_cons (ag_r rfl rfl (Zn ((aS).f1) A9 rfl rfl rfl ⟨rfl, rfl⟩)) (ag_cons (ag_r rfl rfl (Zp F51_1 rfl rfl rfl ⟨rfl, rfl⟩)) (ag_cons (ag_r rfl rfl (Zn ((aS).f1) A3 rfl rfl rfl ⟨rfl, rfl⟩)) ag_nil)))), ?_⟩
   refine DL_q rfl rfl (Exec.build rfl (parts_cons (c := [Value.string (a.Name)]) (cells_of rfl rfl) (parts_cons (c := [Vi (a.Cost)]) (cells_of rfl rfl) (parts_cons (c := [ar, au, av]) (cells_of rfl rfl) parts_nil))) (v := Value.agg #[Value.string (a.Name), Vi (a.Cost), ar, au, av, Value.slice none 0 0, Value.slice none 0 0]) (fun _ => by kernel_rfl) ⟨rfl, ?_⟩)
   refine DL_e rfl rfl (Exec.alloc (cs := [Value.string (⟨#[]⟩), Vi (0), Value.slice none 0 0, Value.slice none 0 0, Value.slice none 0 0, Value.slice none 0 0, Value.slice none 0 0]) aS Z51 rfl rfl ?_)
   intro bX dY aT
   refine ⟨(ag_cons (ag_r rfl rfl (Zp F51_0 rfl rfl rfl ⟨rfl, rfl⟩)) (ag_cons (ag_r rfl rfl (Zn ((aT).f2) A9 rfl rfl rfl ⟨rfl, rfl⟩)) (ag_cons (ag_r rfl rfl (Zp F51_1 rfl rfl rfl ⟨rfl, rfl⟩)) (ag_cons (ag_r rfl rfl (Zn ((aT).f2) A3 rfl rfl rfl ⟨rfl, rfl⟩)) (ag_cons (ag_r rfl rfl (Exec.build rfl (parts_cons (c := [Value.string (a.Name)]) (cells_of rfl rfl) (parts_cons (c := [Vi (a.Cost)]) (cells_of rfl rfl) (parts_cons (c := [ar, au, av]) (cells_of rfl rfl) parts_nil))) (v := Value.agg #[Value.string (a.Name), Vi (a.Cost), ar, au, av, Value.slice none 0 0, Value.slice none 0 0]) (fun _ => by kernel_rfl) ⟨rfl, rfl⟩)) ag_nil))))), ?_⟩
   refine DL_done (Za rfl rfl (Exec.store_box (ds := [Value.string (a.Name), Vi (a.Cost), ar, au, av, Value.slice none 0 0, Value.slice none 0 0]) (es := [Value.string (a.Name), Vi (a.Cost), ar, au, av, Value.slice none 0 0, Value.slice none 0 0]) aT A51 rfl rfl rfl rfl (Zj rfl (Zj rfl (Zj (b9).one (Zj (bA).one (Zj (bB).one (Zj rfl (Zj rfl one_nil))))))) (Nat.le_of_ble_eq_true rfl) rfl ?_))
   intro dZ cm
   refine Zb (Ze ?_)
   exact ⟨df, ar, au, av, bX, c2, (((cm).f1).f2).f3, rfl, rfl, rfl, rfl, b9, bA, bB⟩
  refine DL_e rfl rfl (Exec.alloc (cs := [Value.string (⟨#[]⟩), Vi (0), Value.slice none 0 0, Value.slice none 0 0, Value.slice none 0 0, Value.slice none 0 0, Value.slice none 0 0]) a1 Z51 rfl rfl ?_)
  intro bY ea a7
  refine ⟨(ag_cons (ag_r rfl rfl (Zp F51_0 rfl rfl rfl ⟨rfl, rfl⟩)) (ag_cons (ag_r rfl rfl (Zn ((a7).f2) A9 rfl rfl rfl ⟨rfl, rfl⟩)) (ag_cons (ag_r rfl rfl (Zp F51_1 rfl rfl rfl ⟨rfl, rfl⟩)) (ag_cons (ag_r rfl rfl (Zn ((a7).f2) A3 rfl rfl rfl ⟨rfl, rfl⟩)) (ag_cons (ag_r rfl rfl (Exec.load_box_agg (ds := [n, o, p]) ((a7).f3) A32 rfl rfl rfl ⟨rfl, rfl⟩)) (ag_cons (ag_r rfl rfl (Zp F51_2 rfl rfl rfl ⟨rfl, rfl⟩)) (ag_cons (ag_r rfl rfl (Exec.load_box_agg (ds := [ab, ac, ad]) ((a7).f2) A47 rfl rfl rfl ⟨rfl, rfl⟩)) ag_nil))))))), ?_⟩
  refine DL_e rfl rfl (Tc rfl rfl rfl (Zi rfl (Zi rfl args_nil)) (simplify_Map_cond_sim b7 a7 az a6 aI bi bj bk).r ?_)
  rintro _ eb ⟨dg, aF, aG, aH, c3, aU, rfl, bC, bD, bE⟩
  refine ⟨(ag_cons (ag_r rfl rfl (Zp F51_0 rfl rfl rfl ⟨rfl, rfl⟩)) (ag_cons (ag_r rfl rfl (Zn ((aU).f2) A9 rfl rfl rfl ⟨rfl, rfl⟩)) (ag_cons (ag_r rfl rfl (Zp F51_1 rfl rfl rfl ⟨rfl, rfl⟩)) (ag_cons (ag_r rfl rfl (Zn ((aU).f2) A3 rfl rfl rfl ⟨rfl, rfl⟩)) ag_nil)))), ?_⟩
  refine DL_q rfl rfl (Exec.build rfl (parts_cons (c := [Value.string (a.Name)]) (cells_of rfl rfl) (parts_cons (c := [Vi (a.Cost)]) (cells_of rfl rfl) (parts_cons (c := [aF, aG, aH]) (cells_of rfl rfl) parts_nil))) (v := Value.agg #[Value.string (a.Name), Vi (a.Cost), aF, aG, aH, Value.slice none 0 0, Value.slice none 0 0]) (fun _ => by kernel_rfl) ⟨rfl, ?_⟩)
  refine DL_done (Za rfl rfl (Exec.store_box (ds := [Value.string (a.Name), Vi (a.Cost), aF, aG, aH, Value.slice none 0 0, Value.slice none 0 0]) (es := [Value.string (a.Name), Vi (a.Cost), aF, aG, aH, Value.slice none 0 0, Value.slice none 0 0]) aU A51 rfl rfl rfl rfl (Zj rfl (Zj rfl (Zj (bC).one (Zj (bD).one (Zj (bE).one (Zj rfl (Zj rfl one_nil))))))) (Nat.le_of_ble_eq_true rfl) rfl ?_))
  intro ec cn
  refine Zb (Ze ?_)
  exact ⟨dg, aF, aG, aH, bY, c3, (((cn).f1).f2).f3, rfl, rfl, rfl, rfl, bC, bD, bE⟩
 intro d6 ed ch
 obtain ⟨bJ, h, i, j, t, b, bn, c5, b1, c6, c7, bu, bv, bw⟩ := ch
 refine (Ze (Zc (Zc (Zd (Za rfl rfl (Zp F51_3 rfl b1 rfl (Za rfl rfl (Zn ((bn).f1) A48 rfl rfl rfl (Za rfl rfl (Zr S48 rfl rfl (aQ.mono b) (Za rfl rfl (Zm (v := Vi (0)) rfl rfl (Zb (Ze ?_))))))))))))))
 obtain ⟨aP, cb, hm⟩ := Zg hm
 refine W_block (W_forS (fun k' s' f' w' => (fun (aP : (List GChange)) => ∃ (bK : PHeap) (l : Value), PHeap.le bJ bK ∧ St w0 bK (Res.box y 32 [n, o, p] :: Res.box a0 51 [Value.string (a.Name), Vi (a.Cost), ab, ac, ad, ae, aq] :: Res.box z 51 [Value.string (⟨#[]⟩), Vi (0), Value.slice none 0 0, Value.slice none 0 0, Value.slice none 0 0, Value.slice none 0 0, Value.slice none 0 0] :: Res.box t 51 [Value.string (a.Name), Vi (a.Cost), h, i, j, l, Value.slice none 0 0] :: Res.arr encGChange 58 l aP :: H) w' ∧ f' 2 = Value.pointer (some ⟨y, 0, none⟩) ∧ f' 3 = Value.pointer (some ⟨a0, 0, none⟩) ∧ f' 4 = Value.pointer (some ⟨z, 0, none⟩) ∧ f' 5 = Value.pointer (some ⟨t, 0, none⟩) ∧ f' 20 = ae ∧ f' 21 = Vi ((a.Changes.length : Int)) ∧ f' 22 = Vi (k' : Int)) s') cb ?_ ?_ ?_)
 ·have co := bn.nilArr encGChange 58
  exact ⟨bJ, (Value.slice none 0 0), (Zv _), ((((co).f4).f4).f4).f4, c5, b1, c6, c7, rfl, rfl, rfl⟩
 ·intro bx aP dh d7 ee cz cd am
  obtain ⟨bL, l, an, bo, a4, b2, b3, a5, aX, aY, aO⟩ := cd
  refine Zc (Zd (Za rfl rfl (Zq rfl aO aY (Zb (Ze (Zc (W_true (Zx (decide_eq_true (by omega))) (W_skip (Ze (Zc (W_block (Zc (Zd ?_)))))))))))))
  obtain ⟨m, cN, am⟩ := Zg am
  refine Za rfl rfl (Exec.index_rep S48 rfl aX aO (aQ.mono (Zt b an)) cN ?_)
  intro dr dE bU
  refine Za rfl rfl (Zw (E := encGChange) bo A58 rfl rfl rfl bU ?_)
  intro dP cO
  obtain ⟨aZ, ba, bb, rfl, bF, bG, bH⟩ := encGChange_val.1 cO
  refine Za rfl rfl (Exec.alloc (cs := [Value.slice none 0 0, Value.slice none 0 0, Value.slice none 0 0, Vi (0), Value.bool (false)]) bo Z58 rfl rfl ?_)
  intro dt ef cp
  refine Za rfl rfl (Exec.store_box (ds := [aZ, ba, bb, Vi (m.Atom), Value.bool (m.Add)]) (es := [aZ, ba, bb, Vi (m.Atom), Value.bool (m.Add)]) cp A58 rfl rfl rfl rfl (Zj (bF).one (Zj (bG).one (Zj (bH).one (Zj rfl (Zj rfl one_nil))))) (Nat.le_of_ble_eq_true rfl) rfl ?_)
  intro eg a8
  refine Zb (Ze (Zc (Zd (Za rfl rfl (Zp F32_0 rfl a4 rfl (Za rfl rfl (Zn ((a8).f1) A24 rfl rfl rfl (Za rfl rfl (Zp F58_1 rfl rfl rfl (Za rfl rfl (Zn (a8) A3 rfl rfl rfl ?_)))))))))))
  obtain ⟨aj, b8, am⟩ := Zg am
  refine Za rfl rfl (Exec.index_rep S24 rfl rfl rfl (az.mono (Zt b an)) b8 ?_)
  intro du dF bV
  refine Za rfl rfl (Zw (E := (encInt .i64)) a8 A3 rfl rfl rfl bV ?_)
  intro dQ cP
  obtain rfl := encInt_val.1 cP
  refine Za rfl rfl (Exec.geq rfl rfl rfl (Zb (Ze ?_)))
  obtain ⟨aB, x, am⟩ := Zg am
  refine W_mid (M := fun f' w' => (fun (aB : (List GChange)) => ∃ (bM : PHeap) (aN : Value), PHeap.le bL bM ∧ St w0 bM (Res.box y 32 [n, o, p] :: Res.box a0 51 [Value.string (a.Name), Vi (a.Cost), ab, ac, ad, ae, aq] :: Res.box z 51 [Value.string (⟨#[]⟩), Vi (0), Value.slice none 0 0, Value.slice none 0 0, Value.slice none 0 0, Value.slice none 0 0, Value.slice none 0 0] :: Res.box t 51 [Value.string (a.Name), Vi (a.Cost), h, i, j, aN, Value.slice none 0 0] :: Res.arr encGChange 58 aN aB :: H) w' ∧ f' 2 = Value.pointer (some ⟨y, 0, none⟩) ∧ f' 3 = Value.pointer (some ⟨a0, 0, none⟩) ∧ f' 4 = Value.pointer (some ⟨z, 0, none⟩) ∧ f' 5 = Value.pointer (some ⟨t, 0, none⟩) ∧ f' 20 = ae ∧ f' 21 = Vi ((a.Changes.length : Int)) ∧ f' 22 = Vi ((bx : Int))) aB) ?_ ?_
  ·rcases ite_some x with ⟨aA, x⟩ | ⟨aA, x⟩
   ·refine W_cond_t rfl aA (W_dl (n0 := 17) (qs 0 5 (qs 6 8 (.e 5 [0, 1, 6, 7, 8, 9, 10, 11, 12, 13] (.q 14 (.e 15 [0, 1] (.e 16 [] .done)))))) hmix (by kernel_rfl) (by kernel_rfl) ?_)
    have aa := a8.drew
    refine DL_q rfl rfl (Zp F51_3 rfl a5 rfl ⟨rfl, ?_⟩)
    refine DL_q rfl rfl (Zn ((aa).f4) A48 rfl rfl rfl ⟨rfl, ?_⟩)
    refine DL_q rfl rfl (Exec.load_box_agg (ds := [n, o, p]) ((aa).f1) A32 rfl a4 rfl ⟨rfl, ?_⟩)
    refine DL_q rfl rfl (Zp F58_0 rfl rfl rfl ⟨rfl, ?_⟩)
    refine DL_q rfl rfl (Exec.load_box_agg (ds := [aZ, ba, bb]) (aa) A47 rfl rfl rfl ⟨rfl, ?_⟩)
    refine DL_q rfl rfl (Zp F32_0 rfl a4 rfl ⟨rfl, ?_⟩)
    refine DL_q rfl rfl (Zn ((aa).f1) A24 rfl rfl rfl ⟨rfl, ?_⟩)
    refine DL_q rfl rfl (Zp F58_1 rfl rfl rfl ⟨rfl, ?_⟩)
    refine DL_q rfl rfl (Zn (aa) A3 rfl rfl rfl ⟨rfl, ?_⟩)
    refine DL_q rfl rfl (Exec.index_repE S24 rfl rfl rfl (az.mono (Zt b an)) b8 ?_)
    intro dv dG bl bZ
    refine ⟨rfl, ?_⟩
    refine DL_q rfl rfl (Zw (E := (encInt .i64)) aa A3 rfl rfl rfl bl ?_)
    intro dR cQ
    obtain rfl := encInt_val.1 cQ
    refine ⟨rfl, ?_⟩
    refine DL_q rfl rfl (Zp F58_2 rfl rfl rfl ⟨rfl, ?_⟩)
    refine DL_q rfl rfl (Zn (aa) A4 rfl rfl rfl ⟨rfl, ?_⟩)
    obtain ⟨dq, cR, x⟩ := Zg x
    refine DL_e rfl rfl (Tc rfl rfl rfl (Zi rfl (Zi rfl args_nil)) (simplify_Map_cond_sim cR aa (az.mono (Zt b an)) (a6.mono (Zt b an)) (aI.mono (Zt b an)) bF bG bH).r ?_)
    rintro _ eh ⟨di, aw, af, ag, bz, a2, rfl, cZ, da, db⟩
    refine ⟨(ag_cons (ag_r rfl rfl (Zp F51_3 rfl a5 rfl ⟨rfl, rfl⟩)) (ag_cons (ag_r rfl rfl (Zn ((a2).f4) A48 rfl rfl rfl ⟨rfl, rfl⟩)) (ag_cons (ag_r rfl rfl (Zp F32_0 rfl a4 rfl ⟨rfl, rfl⟩)) (ag_cons (ag_r rfl rfl (Zn ((a2).f1) A24 rfl rfl rfl ⟨rfl, rfl⟩)) (ag_cons (ag_r rfl rfl (Zp F58_1 rfl rfl rfl ⟨rfl, rfl⟩)) (ag_cons (ag_r rfl rfl (Zn (a2) A3 rfl rfl rfl ⟨rfl, rfl⟩)) (ag_cons (ag_r rfl rfl (Exec.index_run rfl rfl rfl bZ ⟨rfl, rfl⟩)) (ag_cons (ag_r rfl rfl (Zw (E := (encInt .i64)) a2 A3 rfl rfl rfl (bl.mono bz) (fun _ q => ⟨rfl, encInt_val.1 q⟩))) (ag_cons (ag_r rfl rfl (Zp F58_2 rfl rfl rfl ⟨rfl, rfl⟩)) (ag_cons (ag_r rfl rfl (Zn (a2) A4 rfl rfl rfl ⟨rfl, rfl⟩)) ag_nil)))))))))), ?_⟩
    refine DL_q rfl rfl (Exec.build rfl (parts_cons (c := [aw, af, ag]) (cells_of rfl rfl) (parts_cons (c := [Vi (aj)]) (cells_of rfl rfl) (parts_cons (c := [Value.bool (m.Add)]) (cells_of rfl rfl) parts_nil))) (v := Value.agg #[aw, af, ag, Vi (aj), Value.bool (m.Add)]) (fun _ => by kernel_rfl) ⟨rfl, ?_⟩)
    refine DL_e rfl rfl (Exec.buildSlice (Te := 58) (cs := [aw, af, ag, Vi (aj), Value.bool (m.Add)]) a2 rfl (parts_cons (c := [aw, af, ag, Vi (aj), Value.bool (m.Add)]) (cells_of rfl rfl) parts_nil) (fun _ => by kernel_rfl) ?_)
    intro dw ei bp
    refine ⟨(ag_cons (ag_r rfl rfl (Zp F51_3 rfl a5 rfl ⟨rfl, rfl⟩)) (ag_cons (ag_r rfl rfl (Zn ((bp).f5) A48 rfl rfl rfl ⟨rfl, rfl⟩)) ag_nil)), ?_⟩
    obtain ⟨dC, cS, x⟩ := Zg x
    refine DL_e rfl rfl (Exec.append_box (E := encGChange) (ys := [(⟨dq, aj, m.Add⟩ : GChange)]) (bp).f6 S48 Z58 rfl (by decide) rfl rfl rfl rfl ⟨[aw, af, ag, Vi (aj), Value.bool (m.Add)], [], rfl, ⟨[aw, af, ag], [Vi (aj), Value.bool (m.Add)], rfl, ⟨[aw], [af, ag], rfl, ⟨_, rfl, cZ⟩, ⟨[af], [ag], rfl, ⟨_, rfl, da⟩, ⟨_, rfl, db⟩⟩⟩, ⟨[Vi (aj)], [Value.bool (m.Add)], rfl, rfl, rfl⟩⟩, rfl⟩ rfl cS ?_)
    intro bd ej aV
    refine ⟨ag_nil, ?_⟩
    refine DL_done (Za rfl rfl (Zp F51_3 rfl a5 rfl (Za rfl rfl (Exec.store_box (ds := [bd]) (es := [Value.string (a.Name), Vi (a.Cost), h, i, j, bd, Value.slice none 0 0]) (aV).f5 A48 rfl rfl rfl (cells_one (((aV).f5).f1).arr_one) (Zj (((aV).f5).f1).arr_one one_nil) (Nat.le_of_ble_eq_true rfl) rfl ?_))))
    intro ek cq
    refine Zb (Ze ?_)
    have d1 := Zu x
    subst aB
    exact ⟨di, bd, bz, (((((((cq).f2).drop).f1).f1).f4).f4).f4, a4, b2, b3, a5, aX, aY, aO⟩
   refine W_cond_f rfl aA ?_
   replace aA := Zk aA
   refine W_skip (Ze ?_)
   have d2 := Zu x
   subst aB
   exact ⟨bL, l, (Zv _), ((((((a8).drop).f4).f4).f4).f4).f4, a4, b2, b3, a5, aX, aY, aO⟩
  intro d8 el ci
  obtain ⟨dj, aN, c4, cr, c8, c9, cA, cB, cC, cD, cE⟩ := ci
  refine (ib_normal (Ze (Zd (Za rfl rfl (Exec.add rfl cE rfl (Za rfl rfl (Zm (v := Vi (IntKind.i64.wrap ((bx : Int) + 1))) rfl rfl (Zb (Ze ?_)))))))))
  have d3 := Zu am
  subst dh
  exact ⟨dj, aN, (Zt an c4), (((((cr).f4).f4).f4).f4).f4, c8, c9, cA, cB, cC, cD, (Eq.trans rfl (wrap_up cz (SliceRep.le (aQ.mono b))))⟩
 intro d9 em ce
 obtain ⟨bN, l, g, bq, cF, cG, cH, cI, dJ, cJ, dn⟩ := ce
 refine Zc (Zd (Za rfl rfl (Zq rfl dn cJ (Zb (Ze (Zc (W_false (Zx (decide_eq_false (by omega))) (W_exit (at_exit (at_exit (ib_here (Ze (Zc (Zc (Zd (Za rfl rfl (Zp F51_4 rfl cG rfl (Za rfl rfl (Zn ((bq).f1) A49 rfl rfl rfl (Za rfl rfl (Zr S49 rfl rfl (aR.mono (Zt b g)) (Za rfl rfl (Zm (v := Vi (0)) rfl rfl (Zb (Ze ?_)))))))))))))))))))))))))
 obtain ⟨bh, cc, hm⟩ := Zg hm
 refine W_block (W_forS (fun k' s' f' w' => (fun (bh : (List GAssign)) => ∃ (bO : PHeap) (ah : Value), PHeap.le bN bO ∧ St w0 bO (Res.box y 32 [n, o, p] :: Res.box z 51 [Value.string (⟨#[]⟩), Vi (0), Value.slice none 0 0, Value.slice none 0 0, Value.slice none 0 0, Value.slice none 0 0, Value.slice none 0 0] :: Res.box t 51 [Value.string (a.Name), Vi (a.Cost), h, i, j, l, ah] :: Res.arr encGChange 58 l aP :: Res.arr encGAssign 84 ah bh :: H) w' ∧ f' 2 = Value.pointer (some ⟨y, 0, none⟩) ∧ f' 4 = Value.pointer (some ⟨z, 0, none⟩) ∧ f' 5 = Value.pointer (some ⟨t, 0, none⟩) ∧ f' 53 = aq ∧ f' 54 = Vi ((a.Assigns.length : Int)) ∧ f' 55 = Vi (k' : Int)) s') cc ?_ ?_ ?_)
 ·have ct := bq.nilArr encGAssign 84
  exact ⟨bN, (Value.slice none 0 0), (Zv _), ((((((ct).f2).drop).f4).f4).f4).f4, cF, cH, cI, rfl, rfl, rfl⟩
 ·intro c1 bh dk dA en c0 cf u
  obtain ⟨dM, ah, a3, br, aM, cK, aD, b4, b5, bf⟩ := cf
  refine Zc (Zd (Za rfl rfl (Zq rfl bf b5 (Zb (Ze (Zc (W_true (Zx (decide_eq_true (by omega))) (W_skip (Ze (Zc (W_block (Zc (Zd ?_)))))))))))))
  obtain ⟨ak, cT, u⟩ := Zg u
  refine Za rfl rfl (Exec.index_rep S49 rfl b4 bf (aR.mono (Zt (Zt b g) a3)) cT ?_)
  intro dx dH bW
  refine Za rfl rfl (Zw (E := encGAssign) br A84 rfl rfl rfl bW ?_)
  intro dS cU
  obtain ⟨bc, rfl, bI⟩ := encGAssign_val.1 cU
  refine Za rfl rfl (Exec.alloc (cs := [Vi (0), Value.string (⟨#[]⟩), Vi (0), Value.slice none 0 0]) br Z84 rfl rfl ?_)
  intro dy eo cu
  refine Za rfl rfl (Exec.store_box (ds := [Vi (ak.Fluent), Value.string (ak.Value.Op), Vi (ak.Value.N), bc]) (es := [Vi (ak.Fluent), Value.string (ak.Value.Op), Vi (ak.Value.N), bc]) cu A84 rfl rfl rfl rfl (Zj rfl (Zj rfl (Zj rfl (Zj (bI).one one_nil)))) (Nat.le_of_ble_eq_true rfl) rfl ?_)
  intro ep cv
  refine Zb (Ze (W_dl (n0 := 15) (qs 0 11 (.e 11 [0, 1, 2, 3, 4, 5, 6, 7] (.q 12 (.e 13 [0, 1] (.e 14 [] .done))))) hmix (by kernel_rfl) (by kernel_rfl) ?_))
  have al := cv.drew
  refine DL_q rfl rfl (Zp F51_4 rfl aD rfl ⟨rfl, ?_⟩)
  refine DL_q rfl rfl (Zn ((al).f3) A49 rfl rfl rfl ⟨rfl, ?_⟩)
  refine DL_q rfl rfl (Zp F32_1 rfl aM rfl ⟨rfl, ?_⟩)
  refine DL_q rfl rfl (Zn ((al).f1) A24 rfl rfl rfl ⟨rfl, ?_⟩)
  refine DL_q rfl rfl (Zp F84_0 rfl rfl rfl ⟨rfl, ?_⟩)
  refine DL_q rfl rfl (Zn (al) A3 rfl rfl rfl ⟨rfl, ?_⟩)
  obtain ⟨ax, cV, u⟩ := Zg u
  refine DL_q rfl rfl (Exec.index_repE S24 rfl rfl rfl (a6.mono (Zt (Zt b g) a3)) cV ?_)
  intro dz dI bm ca
  refine ⟨rfl, ?_⟩
  refine DL_q rfl rfl (Zw (E := (encInt .i64)) al A3 rfl rfl rfl bm ?_)
  intro dT cW
  obtain rfl := encInt_val.1 cW
  refine ⟨rfl, ?_⟩
  refine DL_q rfl rfl (Exec.load_box_agg (ds := [n, o, p]) ((al).f1) A32 rfl aM rfl ⟨rfl, ?_⟩)
  refine DL_q rfl rfl (Zp F84_1 rfl rfl rfl ⟨rfl, ?_⟩)
  refine DL_q rfl rfl (Exec.load_box_agg (ds := [Value.string (ak.Value.Op), Vi (ak.Value.N), bc]) (al) A82 rfl rfl rfl ⟨rfl, ?_⟩)
  obtain ⟨d, cX, u⟩ := Zg u
  refine DL_e rfl rfl (Tc rfl rfl rfl (Zi rfl (Zi rfl args_nil)) (simplify_Map_expr_sim cX al (az.mono (Zt (Zt b g) a3)) (a6.mono (Zt (Zt b g) a3)) (aI.mono (Zt (Zt b g) a3)) bI).r ?_)
  rintro _ er ⟨dl, ai, b0, a9, rfl, dc⟩
  refine ⟨(ag_cons (ag_r rfl rfl (Zp F51_4 rfl aD rfl ⟨rfl, rfl⟩)) (ag_cons (ag_r rfl rfl (Zn ((a9).f3) A49 rfl rfl rfl ⟨rfl, rfl⟩)) (ag_cons (ag_r rfl rfl (Zp F32_1 rfl aM rfl ⟨rfl, rfl⟩)) (ag_cons (ag_r rfl rfl (Zn ((a9).f1) A24 rfl rfl rfl ⟨rfl, rfl⟩)) (ag_cons (ag_r rfl rfl (Zp F84_0 rfl rfl rfl ⟨rfl, rfl⟩)) (ag_cons (ag_r rfl rfl (Zn (a9) A3 rfl rfl rfl ⟨rfl, rfl⟩)) (ag_cons (ag_r rfl rfl (Exec.index_run rfl rfl rfl ca ⟨rfl, rfl⟩)) (ag_cons (ag_r rfl rfl (Zw (E := (encInt .i64)) a9 A3 rfl rfl rfl (bm.mono b0) (fun _ q => ⟨rfl, encInt_val.1 q⟩))) ag_nil)))))))), ?_⟩
  refine DL_q rfl rfl (Exec.build rfl (parts_cons (c := [Vi (ax)]) (cells_of rfl rfl) (parts_cons (c := [Value.string (d.Op), Vi (d.N), ai]) (cells_of rfl rfl) parts_nil)) (v := Value.agg #[Vi (ax), Value.string (d.Op), Vi (d.N), ai]) (fun _ => by kernel_rfl) ⟨rfl, ?_⟩)
  refine DL_e rfl rfl (Exec.buildSlice (Te := 84) (cs := [Vi (ax), Value.string (d.Op), Vi (d.N), ai]) a9 rfl (parts_cons (c := [Vi (ax), Value.string (d.Op), Vi (d.N), ai]) (cells_of rfl rfl) parts_nil) (fun _ => by kernel_rfl) ?_)
  intro d0 et bs
  refine ⟨(ag_cons (ag_r rfl rfl (Zp F51_4 rfl aD rfl ⟨rfl, rfl⟩)) (ag_cons (ag_r rfl rfl (Zn ((bs).f4) A49 rfl rfl rfl ⟨rfl, rfl⟩)) ag_nil)), ?_⟩
  obtain ⟨dD, cY, u⟩ := Zg u
  refine DL_e rfl rfl (Exec.append_box (E := encGAssign) (ys := [(⟨ax, d⟩ : GAssign)]) (bs).f6 S49 Z84 rfl (by decide) rfl rfl rfl rfl ⟨[Vi (ax), Value.string (d.Op), Vi (d.N), ai], [], rfl, ⟨[Vi (ax)], [Value.string (d.Op), Vi (d.N), ai], rfl, rfl, ((encGExpr_iff _ _ _).2 ⟨[Value.string (d.Op)], [Vi (d.N), ai], rfl, rfl, ⟨[Vi (d.N)], [ai], rfl, rfl, ⟨_, rfl, dc⟩⟩⟩)⟩, rfl⟩ rfl cY ?_)
  intro be eu aW
  refine ⟨ag_nil, ?_⟩
  refine DL_done (Za rfl rfl (Zp F51_4 rfl aD rfl (Za rfl rfl (Exec.store_box (ds := [be]) (es := [Value.string (a.Name), Vi (a.Cost), h, i, j, l, be]) (aW).f4 A49 rfl rfl rfl (cells_one (((aW).f4).f1).arr_one) (Zj (((aW).f4).f1).arr_one one_nil) (Nat.le_of_ble_eq_true rfl) rfl ?_))))
  intro ev cw
  refine Zb (ib_normal (Ze (Zd (Za rfl rfl (Exec.add rfl bf rfl (Za rfl rfl (Zm (v := Vi (IntKind.i64.wrap ((c1 : Int) + 1))) rfl rfl (Zb (Ze ?_)))))))))
  have d4 := Zu u
  subst dk
  exact ⟨dl, be, (Zt a3 b0), (((((((cw).f2).drop).f1).f4).f2).f4).f4, aM, cK, aD, b4, b5, (Eq.trans rfl (wrap_up c0 (SliceRep.le (aR.mono (Zt b g)))))⟩
 intro dB ew cg
 obtain ⟨dN, ah, ao, aJ, dK, b6, cL, dL, cM, dp⟩ := cg
 refine Zc (Zd (Za rfl rfl (Zq rfl dp cM (Zb (Ze (Zc (W_false (Zx (decide_eq_false (by omega))) (W_exit (at_exit (at_exit (ib_here (Ze (Zc (Zd (Za rfl rfl (Exec.load_box_agg (ds := [Value.string (a.Name), Vi (a.Cost), h, i, j, l, ah]) ((aJ).f2) A51 rfl cL rfl (Za rfl rfl (Exec.store_box (ds := [Value.string (a.Name), Vi (a.Cost), h, i, j, l, ah]) (es := [Value.string (a.Name), Vi (a.Cost), h, i, j, l, ah]) (aJ).f1 A51 rfl b6 rfl rfl (Zj rfl (Zj rfl (Zj ((bu.mono (Zt g ao))).one (Zj ((bv.mono (Zt g ao))).one (Zj ((bw.mono (Zt g ao))).one (Zj (((aJ).f1).f3).arr_one (Zj (((aJ).f1).f4).arr_one one_nil))))))) (Nat.le_of_ble_eq_true rfl) rfl ?_))))))))))))))))))
 intro ex bt
 refine Zb (Ze (W_ret ?_))
 have d5 := Zu hm
 subst r
 refine ⟨_, retG1 rfl ⟨_, _, b6, cellRes (bt) A51⟩, ?_⟩
 obtain ⟨dO, aK, cx, dd⟩ := (bt).f3.freezeArr
 obtain ⟨dm, aC, cy, de⟩ := (cx).f3.freezeArr
 exact ⟨dm, h, i, j, l, ah, (Zt (Zt (Zt (Zt b g) ao) aK) aC), (((cy).drop).drop).drop, rfl, (bu.mono (Zt (Zt (Zt g ao) aK) aC)), (bv.mono (Zt (Zt (Zt g ao) aK) aC)), (bw.mono (Zt (Zt (Zt g ao) aK) aC)), (dd.mono aC), de⟩
theorem slices_Equal___int_int__sim {w0 w : World} {s : PHeap} {H : List Res} {n : (List Int)} {ab : (List Int)} {b : Value} {c : Value} {r : Bool} (hm : slices_Equal___int_int__p n ab = some r) (hS : St w0 s (H) w) (j : SliceRep (encInt .i64) s b n) (p : SliceRep (encInt .i64) s c ab) :
  Calls Try.prog 125 #[b, c] w fun e w' => ∃ v, e = .returned v ∧ ((fun (a8 : Bool) => ∃ (ac : PHeap) , PHeap.le s ac ∧ St w0 ac (H) w' ∧ v = Value.bool (a8)) r) := by
 unfold slices_Equal___int_int__p at hm
 refine calls_of_W Try.func125 rfl rfl (Zc (Zd (Za rfl rfl (Zo (v := Value.bool (false)) rfl rfl (Zb (Ze (Zc (Zc (Zd (Za rfl rfl (Zm (v := b) rfl rfl (Za rfl rfl (Zr S24 rfl rfl j (Za rfl rfl (Zm (v := c) rfl rfl (Za rfl rfl (Zr S24 rfl rfl p (Za rfl rfl (Exec.neq rfl rfl rfl (Zb (Ze ?_)))))))))))))))))))))
 rcases ite_some hm with ⟨d, hm⟩ | ⟨d, hm⟩
 ·refine W_cond_t rfl d (Zc (Zd (Za rfl rfl (Zo (v := Value.bool (false)) rfl rfl (Zb (Ze (W_ret (at_ret ?_))))))))
  have aB := Zu hm
  subst r
  refine ⟨_, ret1 rfl, ?_⟩
  exact ⟨s, (Zv _), hS, rfl⟩
 refine W_cond_f rfl d ?_
 replace d := Zk d
 refine W_skip (Ze (Zc (Zc (Zd (Za rfl rfl (Zm (v := b) rfl rfl (Za rfl rfl (Zr S24 rfl rfl j (Za rfl rfl (Zm (v := Vi (0)) rfl rfl (Zb (Ze ?_))))))))))))
 obtain ⟨q, ai, au, aq, ao⟩ := ctl_some hm
 refine W_mid (M := fun f' w' => ∃ s', (q = .next s' ∨ q = .brk s') ∧ (fun (_ : Unit) => ∃ (ad : PHeap) , PHeap.le s ad ∧ St w0 ad (H) w' ∧ f' 0 = b ∧ f' 1 = c ∧ f' 12 = Vi ((n.length : Int))) s') ?_ ?_
 ·refine W_block (W_forC (fun k' s' f' w' => (fun (_ : Unit) => ∃ (ae : PHeap) , PHeap.le s ae ∧ St w0 ae (H) w' ∧ f' 0 = b ∧ f' 1 = c ∧ f' 12 = Vi ((n.length : Int)) ∧ f' 13 = Vi (k' : Int)) s') ai ?_ ?_ ?_)
  ·exact ⟨s, (Zv _), hS, rfl, rfl, rfl, rfl⟩
  ·intro i aQ t aI aV ap aj a av
   obtain ⟨af, m, l, x, y, z, o⟩ := aj
   refine Zc (Zd (Za rfl rfl (Zq rfl o z (Zb (Ze (Zc (W_true (Zx (decide_eq_true (by omega))) (W_skip (Ze (Zc (W_block (Zc (Zd (Za rfl rfl (Zm (v := Vi ((i : Int))) rfl o (Za rfl rfl (Zo (v := Vi ((i : Int))) rfl rfl (Zb (Ze (Zc (W_dl (n0 := 9) (qs 0 9 .done) hmix (by kernel_rfl) (by kernel_rfl) (DL_q rfl rfl (Zm (v := b) rfl x ⟨rfl, ?_⟩)))))))))))))))))))))))
   refine DL_q rfl rfl (Zm (v := Vi ((i : Int))) rfl rfl ⟨rfl, ?_⟩)
   obtain ⟨aY, a1, a⟩ := Zg a
   refine DL_q rfl rfl (Exec.index_repE S24 rfl rfl rfl (j.mono m) a1 ?_)
   intro a9 aL ag aC
   refine ⟨rfl, ?_⟩
   refine DL_q rfl rfl (Zw (E := (encInt .i64)) l.drew A3 rfl rfl rfl ag ?_)
   intro aT a2
   obtain rfl := encInt_val.1 a2
   refine ⟨rfl, ?_⟩
   refine DL_q rfl rfl (Zm (v := c) rfl y ⟨rfl, ?_⟩)
   refine DL_q rfl rfl (Zm (v := Vi ((i : Int))) rfl rfl ⟨rfl, ?_⟩)
   obtain ⟨aZ, a3, a⟩ := Zg a
   refine DL_q rfl rfl (Exec.index_repE S24 rfl rfl rfl (p.mono m) a3 ?_)
   intro aA aM ah aD
   refine ⟨rfl, ?_⟩
   refine DL_q rfl rfl (Zw (E := (encInt .i64)) l.drew A3 rfl rfl rfl ah ?_)
   intro aU a4
   obtain rfl := encInt_val.1 a4
   refine ⟨rfl, ?_⟩
   refine DL_q rfl rfl (Exec.neq rfl rfl rfl ⟨rfl, ?_⟩)
   refine DL_done (Zb (Ze ?_))
   rcases ite_some a with ⟨g, a⟩ | ⟨g, a⟩
   ·refine W_cond_t rfl g (Zc (Zd (Za rfl rfl (Zo (v := Value.bool (false)) rfl rfl (Zb (Ze (W_ret (ib_ret (at_ret (at_ret (ib_ret (at_ret (at_ret ?_)))))))))))))
    have aE := Zu a
    subst t
    have ar := au _ (av (by intro _ h; cases h))
    have aF := Zu ar
    subst r
    refine ⟨_, ret1 rfl, ?_⟩
    exact ⟨af, m, l.drew, rfl⟩
   refine W_cond_f rfl g ?_
   replace g := Zk g
   refine W_skip (ib_normal (Ze (Zd (Za rfl rfl (Exec.add rfl o rfl (Za rfl rfl (Zm (v := Vi (IntKind.i64.wrap ((i : Int) + 1))) rfl rfl (Zb (Ze ?_)))))))))
   have aG := Zu a
   subst t
   refine ⟨_, rfl, ?_⟩; exact ⟨af, m, l.drew, x, y, z, (Eq.trans rfl (wrap_up ap (SliceRep.le j)))⟩
  intro aR aJ aW ak aw
  obtain ⟨a5, ax, am, az, a0, aa, a7⟩ := ak
  refine Zc (Zd (Za rfl rfl (Zq rfl a7 aa (Zb (Ze (Zc (W_false (Zx (decide_eq_false (by omega))) (W_exit (at_exit (at_exit (ib_here (Ze ?_))))))))))))
  refine ⟨_, .inl aw, ?_⟩; exact ⟨a5, ax, am, az, a0, aa⟩
 rintro aK aX ⟨aS, u, al⟩
 have hm := u.elim (aq _) (ao _)
 clear u
 obtain ⟨a6, ay, an, aN, aO, aP⟩ := al
 refine (Ze (Zc (Zd (Za rfl rfl (Zo (v := Value.bool (true)) rfl rfl (Zb (Ze (W_ret ?_))))))))
 have aH := Zu hm
 subst r
 refine ⟨_, ret1 rfl, ?_⟩
 exact ⟨a6, ay, an, rfl⟩
theorem N116 : (Try.f116.name == "runtime.NumGoroutine") = false := by kernel_rfl
theorem api_GExpr__f116_sim {w0 w : World} {s : PHeap} {H : List Res} {q : (List GExpr)} {ao : (List GExpr)} {F_simplify_sameExpr : GExpr → GExpr → Option (Bool)} {b : Value} {c : Value} {r : Bool} (hm : api_GExpr__f116_p q ao F_simplify_sameExpr = some r) (hS : St w0 s (H) w) (l : SliceRep encGExpr s b q) (z : SliceRep encGExpr s c ao) (hF_simplify_sameExpr : ∀ {w0 w : World} {s : PHeap} {H : List Res} {m : GExpr} {n : GExpr} {aw : Value} {ax : Value} {r : Bool} (hm : F_simplify_sameExpr m n = some r) (hS : St w0 s (H) w) (aU : SliceRep encGExpr s aw m.Kids) (aV : SliceRep encGExpr s ax n.Kids), Calls Try.prog 116 #[Value.agg #[Value.string (m.Op), Vi (m.N), aw], Value.agg #[Value.string (n.Op), Vi (n.N), ax]] w fun e w' => ∃ v, e = .returned v ∧ ((fun (aS : Bool) => ∃ (ap : PHeap) , PHeap.le s ap ∧ St w0 ap (H) w' ∧ v = Value.bool (aS)) r)) :
  Calls Try.prog 128 #[b, c, Value.func (.func 116) #[] #[]] w fun e w' => ∃ v, e = .returned v ∧ ((fun (aT : Bool) => ∃ (aq : PHeap) , PHeap.le s aq ∧ St w0 aq (H) w' ∧ v = Value.bool (aT)) r) := by
 unfold api_GExpr__f116_p at hm
 refine calls_of_W Try.func128 rfl rfl (Zc (Zd (Za rfl rfl (Zo (v := Value.bool (false)) rfl rfl (Zb (Ze (Zc (Zc (Zd (Za rfl rfl (Zm (v := b) rfl rfl (Za rfl rfl (Zr S80 rfl rfl l (Za rfl rfl (Zm (v := c) rfl rfl (Za rfl rfl (Zr S80 rfl rfl z (Za rfl rfl (Exec.neq rfl rfl rfl (Zb (Ze ?_)))))))))))))))))))))
 rcases ite_some hm with ⟨i, hm⟩ | ⟨i, hm⟩
 ·refine W_cond_t rfl i (Zc (Zd (Za rfl rfl (Zo (v := Value.bool (false)) rfl rfl (Zb (Ze (W_ret (at_ret ?_))))))))
  have ba := Zu hm
  subst r
  refine ⟨_, ret1 rfl, ?_⟩
  exact ⟨s, (Zv _), hS, rfl⟩
 refine W_cond_f rfl i ?_
 replace i := Zk i
 refine W_skip (Ze (Zc (Zc (Zd (Za rfl rfl (Zm (v := b) rfl rfl (Za rfl rfl (Zr S80 rfl rfl l (Za rfl rfl (Zm (v := Vi (0)) rfl rfl (Zb (Ze ?_))))))))))))
 obtain ⟨aa, a0, aC, aA, a8⟩ := ctl_some hm
 refine W_mid (M := fun f' w' => ∃ s', (aa = .next s' ∨ aa = .brk s') ∧ (fun (_ : Unit) => ∃ (ar : PHeap) , PHeap.le s ar ∧ St w0 ar (H) w' ∧ f' 1 = c ∧ f' 2 = Value.func (.func 116) #[] #[] ∧ f' 15 = b ∧ f' 16 = Vi ((q.length : Int))) s') ?_ ?_
 ·refine W_block (W_forC (fun k' s' f' w' => (fun (_ : Unit) => ∃ (au : PHeap) , PHeap.le s au ∧ St w0 au (H) w' ∧ f' 1 = c ∧ f' 2 = Value.func (.func 116) #[] #[] ∧ f' 15 = b ∧ f' 16 = Vi ((q.length : Int)) ∧ f' 17 = Vi (k' : Int)) s') a0 ?_ ?_ ?_)
  ·exact ⟨s, (Zv _), hS, rfl, rfl, rfl, rfl, rfl⟩
  ·intro o bp ab bf bu a9 a1 a aD
   obtain ⟨bo, p, ac, ah, ai, aj, ak, t⟩ := a1
   refine Zc (Zd (Za rfl rfl (Zq rfl t ak (Zb (Ze (Zc (W_true (Zx (decide_eq_true (by omega))) (W_skip (Ze (Zc (W_block (Zc (Zd (Za rfl rfl (Zm (v := Vi ((o : Int))) rfl t ?_)))))))))))))))
   obtain ⟨d, aK, a⟩ := Zg a
   refine Za rfl rfl (Exec.index_rep S80 rfl aj t (l.mono p) aK ?_)
   intro aW bi ay
   refine Za rfl rfl (Zw (E := encGExpr) ac A82 rfl rfl rfl ay ?_)
   intro bs aL
   obtain ⟨x, rfl, am⟩ := encGExpr_val.1 aL
   refine Za rfl rfl (Exec.alloc (cs := [Value.string (⟨#[]⟩), Vi (0), Value.slice none 0 0]) ac Z82 rfl rfl ?_)
   intro aX bv a4
   refine Za rfl rfl (Zo (v := Vi ((o : Int))) rfl rfl (Za rfl rfl (Exec.store_box (ds := [Value.string (d.Op), Vi (d.N), x]) (es := [Value.string (d.Op), Vi (d.N), x]) a4 A82 rfl rfl rfl rfl (Zj rfl (Zj rfl (Zj (am).one one_nil))) (Nat.le_of_ble_eq_true rfl) rfl ?_)))
   intro bw ad
   refine Zb (Ze (Zc (Zd (Za rfl rfl (Zm (v := c) rfl ah (Za rfl rfl (Zm (v := Vi ((o : Int))) rfl rfl ?_)))))))
   obtain ⟨g, aM, a⟩ := Zg a
   refine Za rfl rfl (Exec.index_rep S80 rfl rfl rfl (z.mono p) aM ?_)
   intro aY bj az
   refine Za rfl rfl (Zw (E := encGExpr) ad A82 rfl rfl rfl az ?_)
   intro bt aN
   obtain ⟨y, rfl, an⟩ := encGExpr_val.1 aN
   refine Za rfl rfl (Exec.alloc (cs := [Value.string (⟨#[]⟩), Vi (0), Value.slice none 0 0]) ad Z82 rfl rfl ?_)
   intro aZ bx a5
   refine Za rfl rfl (Exec.store_box (ds := [Value.string (g.Op), Vi (g.N), y]) (es := [Value.string (g.Op), Vi (g.N), y]) a5 A82 rfl rfl rfl rfl (Zj rfl (Zj rfl (Zj (an).one one_nil))) (Nat.le_of_ble_eq_true rfl) rfl ?_)
   intro bz u
   refine Zb (Ze (Zc (Zd (Za rfl rfl (Zm (v := Value.func (.func 116) #[] #[]) rfl ai (Za rfl rfl (Exec.load_box_agg (ds := [Value.string (d.Op), Vi (d.N), x]) ((u).f1) A82 rfl rfl rfl (Za rfl rfl (Exec.load_box_agg (ds := [Value.string (g.Op), Vi (g.N), y]) (u) A82 rfl rfl rfl ?_)))))))))
   obtain ⟨b3, aO, a⟩ := Zg a
   refine Za rfl rfl (Exec.callf rfl rfl Try.func116 rfl N116 (Zi rfl (Zi rfl args_nil)) ((hF_simplify_sameExpr aO u am an).mono ?_))
   rintro _ b0 ⟨_, rfl, ⟨av, ag, ae, rfl⟩⟩
   refine ⟨_, rfl, ?_⟩
   refine Za rfl rfl (Exec.not rfl rfl (Zb (Ze ?_)))
   rcases ite_some a with ⟨j, a⟩ | ⟨j, a⟩
   ·refine W_cond_t rfl j (Zc (Zd (Za rfl rfl (Zo (v := Value.bool (false)) rfl rfl (Zb (Ze (W_ret (ib_ret (at_ret (at_ret (ib_ret (at_ret (at_ret ?_)))))))))))))
    have bb := Zu a
    subst ab
    have aB := aC _ (aD (by intro _ h; cases h))
    have bc := Zu aB
    subst r
    refine ⟨_, ret1 rfl, ?_⟩
    exact ⟨av, (Zt p ag), ((ae).drop).drop, rfl⟩
   refine W_cond_f rfl j ?_
   replace j := Zk j
   refine W_skip (ib_normal (Ze (Zd (Za rfl rfl (Exec.add rfl t rfl (Za rfl rfl (Zm (v := Vi (IntKind.i64.wrap ((o : Int) + 1))) rfl rfl (Zb (Ze ?_)))))))))
   have bd := Zu a
   subst ab
   refine ⟨_, rfl, ?_⟩; exact ⟨av, (Zt p ag), ((ae).drop).drop, ah, ai, aj, ak, (Eq.trans rfl (wrap_up a9 (SliceRep.le l)))⟩
  intro bq bg b1 a2 aE
  obtain ⟨aP, aF, a6, aH, aI, aJ, al, aR⟩ := a2
  refine Zc (Zd (Za rfl rfl (Zq rfl aR al (Zb (Ze (Zc (W_false (Zx (decide_eq_false (by omega))) (W_exit (at_exit (at_exit (ib_here (Ze ?_))))))))))))
  refine ⟨_, .inl aE, ?_⟩; exact ⟨aP, aF, a6, aH, aI, aJ, al⟩
 rintro bh b2 ⟨br, af, a3⟩
 have hm := af.elim (aA _) (a8 _)
 clear af
 obtain ⟨aQ, aG, a7, bk, bl, bm, bn⟩ := a3
 refine (Ze (Zc (Zd (Za rfl rfl (Zo (v := Value.bool (true)) rfl rfl (Zb (Ze (W_ret ?_))))))))
 have be := Zu hm
 subst r
 refine ⟨_, ret1 rfl, ?_⟩
 exact ⟨aQ, aG, a7, rfl⟩
theorem simplify_sameExpr_step {fu : Nat} (ih : ∀ {w0 w : World} {s : PHeap} {H : List Res} {a : GExpr} {b : GExpr} {i : Value} {j : Value} {r : Bool} (hm : simplify_sameExpr_p fu a b = some r) (hS : St w0 s (H) w) (n : SliceRep encGExpr s i a.Kids) (o : SliceRep encGExpr s j b.Kids), Calls Try.prog 116 #[Value.agg #[Value.string (a.Op), Vi (a.N), i], Value.agg #[Value.string (b.Op), Vi (b.N), j]] w fun e w' => ∃ v, e = .returned v ∧ ((fun (m : Bool) => ∃ (l : PHeap) , PHeap.le s l ∧ St w0 l (H) w' ∧ v = Value.bool (m)) r)) {w0 w : World} {s : PHeap} {H : List Res} {a : GExpr} {b : GExpr} {i : Value} {j : Value} {r : Bool} (hm : simplify_sameExpr_p (fu + 1) a b = some r) (hS : St w0 s (H) w) (n : SliceRep encGExpr s i a.Kids) (o : SliceRep encGExpr s j b.Kids) :
  Calls Try.prog 116 #[Value.agg #[Value.string (a.Op), Vi (a.N), i], Value.agg #[Value.string (b.Op), Vi (b.N), j]] w fun e w' => ∃ v, e = .returned v ∧ ((fun (m : Bool) => ∃ (l : PHeap) , PHeap.le s l ∧ St w0 l (H) w' ∧ v = Value.bool (m)) r) := by
 rw [simplify_sameExpr_p] at hm
 refine calls_of_W Try.func116 rfl rfl (Zc (Zd (Za rfl rfl (Exec.box (cs := [Value.string (a.Op), Vi (a.N), i]) hS rfl rfl rfl ?_))))
 intro ae al t
 refine Za rfl rfl (Exec.box (cs := [Value.string (b.Op), Vi (b.N), j]) t rfl rfl rfl ?_)
 intro af am h
 refine Za rfl rfl (Zo (v := Value.bool (false)) rfl rfl (Zb (Ze (Zc ?_))))
 obtain ⟨k, c, hm⟩ := Zg hm
 refine W_mid (M := fun f' w' => (fun (k : Bool) => ∃ (p : PHeap) , PHeap.le s p ∧ St w0 p (H) w' ∧ f' 4 = Value.bool (k)) k) ?_ ?_
 ·refine Zd (Za rfl rfl (Zp F82_0 rfl rfl rfl (Za rfl rfl (Zn ((h).f1) A9 rfl rfl rfl (Za rfl rfl (Zp F82_0 rfl rfl rfl (Za rfl rfl (Zn (h) A9 rfl rfl rfl (Za rfl rfl (Exec.str_eql rfl rfl rfl (Za rfl rfl (Zm (v := Value.bool (decide (a.Op = b.Op))) rfl rfl ?_))))))))))))
  rcases ite_some c with ⟨d, c⟩ | ⟨d, c⟩
  ·refine WL_run rfl (Zf rfl (Zx d)) rfl (Zp F82_1 rfl rfl rfl (WL_run rfl (Zf rfl (Zx d)) rfl (Zn ((h).f1) A3 rfl rfl rfl (WL_run rfl (Zf rfl (Zx d)) rfl (Zp F82_1 rfl rfl rfl (WL_run rfl (Zf rfl (Zx d)) rfl (Zn (h) A3 rfl rfl rfl (WL_run rfl (Zf rfl (Zx d)) rfl (Exec.eql rfl rfl rfl ?_)))))))))
   refine WL_passes 2 (by rw [d]; rfl) ?_
   rcases ite_some c with ⟨g, c⟩ | ⟨g, c⟩
   ·refine WL_run rfl (Zf rfl (Zx g)) rfl (Zp F82_2 rfl rfl rfl (WL_run rfl (Zf rfl (Zx g)) rfl (Zn ((h).f1) A80 rfl rfl rfl (WL_run rfl (Zf rfl (Zx g)) rfl (Zp F82_2 rfl rfl rfl (WL_run rfl (Zf rfl (Zx g)) rfl (Zn (h) A80 rfl rfl rfl ?_)))))))
    obtain ⟨ap, ab, c⟩ := Zg c
    refine WL_run rfl (Zf rfl (Zx g)) rfl (Tc rfl rfl rfl (Zi rfl (Zi rfl (Zi rfl args_nil))) (api_GExpr__f116_sim ab h n o ih).r ?_)
    rintro _ an ⟨ac, y, u, rfl⟩
    refine WL_passes 2 (by rw [g]; rfl) ?_
    refine Zb (Ze ?_)
    have ag := Zu c
    subst k
    exact ⟨ac, y, ((u).drop).drop, rfl⟩
   replace g := Zk g
   refine WL_passes 7 (by rw [g]; rfl) ?_
   refine Zb (Ze ?_)
   have ah := Zu c
   subst k
   exact ⟨s, (Zv _), ((h).drop).drop, rfl⟩
  replace d := Zk d
  refine WL_passes 14 (by rw [d]; rfl) ?_
  refine Zb (Ze ?_)
  have ai := Zu c
  subst k
  exact ⟨s, (Zv _), ((h).drop).drop, rfl⟩
 intro ak ao q
 obtain ⟨ad, z, x, aa⟩ := q
 refine (Ze (W_ret ?_))
 have aj := Zu hm
 subst r
 refine ⟨_, ret1 rfl, ?_⟩
 exact ⟨ad, z, x, aa⟩
theorem simplify_sameExpr_sim {fu : Nat} : ∀ {w0 w : World} {s : PHeap} {H : List Res} {a : GExpr} {b : GExpr} {d : Value} {f : Value} {r : Bool} (hm : simplify_sameExpr_p fu a b = some r) (hS : St w0 s (H) w) (h : SliceRep encGExpr s d a.Kids) (i : SliceRep encGExpr s f b.Kids), Calls Try.prog 116 #[Value.agg #[Value.string (a.Op), Vi (a.N), d], Value.agg #[Value.string (b.Op), Vi (b.N), f]] w fun e w' => ∃ v, e = .returned v ∧ ((fun (g : Bool) => ∃ (c : PHeap) , PHeap.le s c ∧ St w0 c (H) w' ∧ v = Value.bool (g)) r) := by
 induction fu with
 | zero => intros; rename_i hm _ _ _; rw [simplify_sameExpr_p] at hm; cases hm
 | succ fu ih => exact simplify_sameExpr_step ih
theorem N127 : (Try.f127.name == "runtime.NumGoroutine") = false := by kernel_rfl
end Go.Pw
