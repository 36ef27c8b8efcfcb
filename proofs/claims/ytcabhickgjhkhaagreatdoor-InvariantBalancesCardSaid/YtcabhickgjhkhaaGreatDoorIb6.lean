/-
  The walks (printed by my generator).
-/
import Derived.Test.YtcabhickgjhkhaaGreatDoorL27
import Derived.Test.YtcabhickgjhkhaaGreatDoorIb5
set_option maxRecDepth 100000
set_option maxHeartbeats 4000000
set_option linter.unusedVariables false
namespace Go.Pw
open Go.Proofs
theorem ref20_operator_sim {w0 w : World} {s : PHeap} {H : List Res} {a : GOp} {a1 : (List Int)} {y : Value} {z : Value} {aa : Value} {i : Value} {ab : Value} {p : Value} {r : Bool} (hm : ref20_operator_p a a1 = some r) (hS : St w0 s (H) w) (bc : SliceRep (encInt .i64) s y a.Pre.Pos) (bd : SliceRep (encInt .i64) s z a.Pre.Neg) (be : SliceRep encGTest s aa a.Pre.Tests) (al : SliceRep encGChange s i a.Changes) (bf : SliceRep encGAssign s ab a.Assigns) (av : SliceRep (encInt .i64) s p a1) :
  Calls Tryz.prog 25 #[Value.agg #[Value.string (a.Name), Vi (a.Cost), y, z, aa, i, ab], p] w fun e w' => ∃ v, e = .returned v ∧ ((fun (fG : Bool) => ∃ (c0 : PHeap) , PHeap.le s c0 ∧ St w0 c0 (H) w' ∧ v = Value.bool (fG)) r) := by
 unfold ref20_operator_p at hm
 refine calls_of_W Tryz.func25 rfl rfl (Zc (Zd (Za rfl rfl (Exec.box (cs := [Value.string (a.Name), Vi (a.Cost), y, z, aa, i, ab]) hS rfl rfl rfl ?_))))
 intro o he bD
 refine Za rfl rfl (Zo (v := Value.bool (false)) rfl rfl (Zb (Ze (Zc (Zc (Zd (Za rfl rfl (Zp F63_3 rfl rfl rfl (Za rfl rfl (Zn (bD) A60 rfl rfl rfl (Za rfl rfl (Zr S60 rfl rfl al (Za rfl rfl (Zm (v := Vi (0)) rfl rfl (Zb (Ze ?_))))))))))))))))
 obtain ⟨b7, cM, bQ, d9, d4⟩ := ctl_some hm
 refine W_mid (M := fun f' w' => ∃ s', (b7 = .next s' ∨ b7 = .brk s') ∧ (fun (_ : Unit) => ∃ (c1 : PHeap) , PHeap.le s c1 ∧ St w0 c1 (Res.box o 63 [Value.string (a.Name), Vi (a.Cost), y, z, aa, i, ab] :: H) w' ∧ f' 1 = p ∧ f' 2 = Value.pointer (some ⟨o, 0, none⟩) ∧ f' 20 = i ∧ f' 21 = Vi ((a.Changes.length : Int))) s') ?_ ?_
 ·refine W_block (W_forC (fun k' s' f' w' => (fun (_ : Unit) => ∃ (c2 : PHeap) , PHeap.le s c2 ∧ St w0 c2 (Res.box o 63 [Value.string (a.Name), Vi (a.Cost), y, z, aa, i, ab] :: H) w' ∧ f' 1 = p ∧ f' 2 = Value.pointer (some ⟨o, 0, none⟩) ∧ f' 20 = i ∧ f' 21 = Vi ((a.Changes.length : Int)) ∧ f' 22 = Vi (k' : Int)) s') cM ?_ ?_ ?_)
  ·exact ⟨s, (Zv _), bD, rfl, rfl, rfl, rfl, rfl⟩
  ·intro ap gO aH gn hf bN cQ af bR
   obtain ⟨c3, g, bE, bm, bV, bn, bo, aZ⟩ := cQ
   refine Zc (Zd (Za rfl rfl (Zq rfl aZ bo (Zb (Ze (Zc (W_true (Zx (decide_eq_true (by omega))) (W_skip (Ze (Zc (W_block (Zc (Zd ?_)))))))))))))
   obtain ⟨b, fg, af⟩ := Zg af
   refine Za rfl rfl (Exec.index_rep S60 rfl bn aZ (al.mono g) fg ?_)
   intro fJ g4 cJ
   refine Za rfl rfl (Zw (E := encGChange) bE A81 rfl rfl rfl cJ ?_)
   intro ha fh
   obtain ⟨n, l, m, rfl, bz, b0, b1⟩ := encGChange_val.1 fh
   refine Za rfl rfl (Exec.alloc (cs := [Value.slice none 0 0, Value.slice none 0 0, Value.slice none 0 0, Vi (0), Value.bool (false)]) bE Z81 rfl rfl ?_)
   intro t hg df
   refine Za rfl rfl (Exec.store_box (ds := [n, l, m, Vi (b.Atom), Value.bool (b.Add)]) (es := [n, l, m, Vi (b.Atom), Value.bool (b.Add)]) df A81 rfl rfl rfl rfl (Zj (bz).one (Zj (b0).one (Zj (b1).one (Zj rfl (Zj rfl one_nil))))) (Nat.le_of_ble_eq_true rfl) rfl ?_)
   intro hh aI
   refine Zb (Ze (Zc (Zc ?_)))
   obtain ⟨aF, ax, af⟩ := Zg af
   refine W_mid (M := fun f' w' => (fun (aF : Bool) => ∃ (c4 : PHeap) , PHeap.le c3 c4 ∧ St w0 c4 (Res.box o 63 [Value.string (a.Name), Vi (a.Cost), y, z, aa, i, ab] :: Res.box t 81 [n, l, m, Vi (b.Atom), Value.bool (b.Add)] :: H) w' ∧ f' 1 = p ∧ f' 2 = Value.pointer (some ⟨o, 0, none⟩) ∧ f' 6 = Value.pointer (some ⟨t, 0, none⟩) ∧ f' 20 = i ∧ f' 21 = Vi ((a.Changes.length : Int)) ∧ f' 22 = Vi ((ap : Int)) ∧ f' 35 = Value.bool (aF)) aF) ?_ ?_
   ·refine Zd (Za rfl rfl (Zp F81_2 rfl rfl rfl (Za rfl rfl (Zn (aI) A4 rfl rfl rfl (Za rfl rfl (Exec.not rfl rfl (Za rfl rfl (Zm (v := Value.bool (!b.Add)) rfl rfl ?_))))))))
    rcases ite_some ax with ⟨aq, ax⟩ | ⟨aq, ax⟩
    ·refine WL_passes 6 (by rw [aq]; rfl) ?_
     refine Zb (Ze ?_)
     have fQ := Zu ax
     subst aF
     exact ⟨c3, (Zv _), (aI).f1, bm, bV, rfl, bn, bo, aZ, rfl⟩
    replace aq := Zk aq
    refine WL_run rfl (Zf rfl (Zx aq)) rfl (Zm (v := p) rfl bm (WL_run rfl (Zf rfl (Zx aq)) rfl (Zp F81_1 rfl rfl rfl (WL_run rfl (Zf rfl (Zx aq)) rfl (Zn (aI) A3 rfl rfl rfl ?_)))))
    obtain ⟨fH, fi, ax⟩ := Zg ax
    refine WL_run rfl (Zf rfl (Zx aq)) rfl (Tc rfl rfl rfl (Zi rfl (Zi rfl args_nil)) (ref20_has_sim fi aI (av.mono g)).r ?_)
    rintro _ hi ⟨fx, dT, dg, rfl⟩
    refine WL_run rfl (Zf rfl (Zx aq)) rfl (Exec.not rfl rfl (Za rfl rfl (Exec.pick_f (v := Value.bool (!fH)) rfl (Zx aq) rfl (Zb (Ze ?_)))))
    have fR := Zu ax
    subst aF
    exact ⟨fx, dT, (dg).f1, bm, bV, rfl, bn, bo, aZ, rfl⟩
   intro go hj cY
   obtain ⟨aU, d, bi, bW, bp, ec, bX, bY, bZ, ca⟩ := cY
   refine (Ze ?_)
   rcases ite_some af with ⟨a5, af⟩ | ⟨a5, af⟩
   ·refine W_cond_t ca a5 (W_exit (at_exit (ib_here (Ze (Zd (Za rfl rfl (Exec.add rfl bZ rfl (Za rfl rfl (Zm (v := Vi (IntKind.i64.wrap ((ap : Int) + 1))) rfl rfl (Zb (Ze ?_)))))))))))
    have fS := Zu af
    subst aH
    refine ⟨_, rfl, ?_⟩; exact ⟨aU, (Zt g d), ((bi).f1).drop, bW, bp, bX, bY, (Eq.trans rfl (wrap_up bN (SliceRep.le al)))⟩
   refine W_cond_f ca a5 ?_
   replace a5 := Zk a5
   refine W_skip (Ze (Zc (Zc (Zd (Za rfl rfl (Zp F63_3 rfl bp rfl (Za rfl rfl (Zn (bi) A60 rfl rfl rfl (Za rfl rfl (Zr S60 rfl rfl (al.mono (Zt g d)) (Za rfl rfl (Zm (v := Vi (0)) rfl rfl (Zb (Ze ?_))))))))))))))
   obtain ⟨b8, cN, dI, dA, d5⟩ := ctl_some af
   refine W_mid (M := fun f' w' => ∃ s', (b8 = .next s' ∨ b8 = .brk s') ∧ (fun (_ : Unit) => ∃ (c5 : PHeap) , PHeap.le aU c5 ∧ St w0 c5 (Res.box o 63 [Value.string (a.Name), Vi (a.Cost), y, z, aa, i, ab] :: Res.box t 81 [n, l, m, Vi (b.Atom), Value.bool (b.Add)] :: H) w' ∧ f' 1 = p ∧ f' 2 = Value.pointer (some ⟨o, 0, none⟩) ∧ f' 6 = Value.pointer (some ⟨t, 0, none⟩) ∧ f' 20 = i ∧ f' 21 = Vi ((a.Changes.length : Int)) ∧ f' 22 = Vi ((ap : Int)) ∧ f' 37 = i ∧ f' 38 = Vi ((a.Changes.length : Int))) s') ?_ ?_
   ·refine W_block (W_forC (fun k' s' f' w' => (fun (_ : Unit) => ∃ (c6 : PHeap) , PHeap.le aU c6 ∧ St w0 c6 (Res.box o 63 [Value.string (a.Name), Vi (a.Cost), y, z, aa, i, ab] :: Res.box t 81 [n, l, m, Vi (b.Atom), Value.bool (b.Add)] :: H) w' ∧ f' 1 = p ∧ f' 2 = Value.pointer (some ⟨o, 0, none⟩) ∧ f' 6 = Value.pointer (some ⟨t, 0, none⟩) ∧ f' 20 = i ∧ f' 21 = Vi ((a.Changes.length : Int)) ∧ f' 22 = Vi ((ap : Int)) ∧ f' 37 = i ∧ f' 38 = Vi ((a.Changes.length : Int)) ∧ f' 39 = Vi (k' : Int)) s') cN ?_ ?_ ?_)
    ·have dh := (bi).f1
     exact ⟨aU, (Zv _), (dh).f1, bW, bp, ec, bX, bY, bZ, rfl, rfl, rfl⟩
    ·intro aA gP bg gp hk bO cR ag dL
     obtain ⟨c7, ad, bF, aM, bq, aN, br, bs, bt, aO, aP, aD⟩ := cR
     refine Zc (Zd (Za rfl rfl (Zq rfl aD aP (Zb (Ze (Zc (W_true (Zx (decide_eq_true (by omega))) (W_skip (Ze (Zc (W_block (Zc (Zd ?_)))))))))))))
     obtain ⟨j, fj, ag⟩ := Zg ag
     refine Za rfl rfl (Exec.index_rep S60 rfl aO aD (al.mono (Zt (Zt g d) ad)) fj ?_)
     intro fK g5 cK
     refine Za rfl rfl (Zw (E := encGChange) bF A81 rfl rfl rfl cK ?_)
     intro hb fk
     obtain ⟨ak, ai, aj, rfl, cx, cy, cz⟩ := encGChange_val.1 fk
     refine Za rfl rfl (Exec.alloc (cs := [Value.slice none 0 0, Value.slice none 0 0, Value.slice none 0 0, Vi (0), Value.bool (false)]) bF Z81 rfl rfl ?_)
     intro a0 hl di
     refine Za rfl rfl (Exec.store_box (ds := [ak, ai, aj, Vi (j.Atom), Value.bool (j.Add)]) (es := [ak, ai, aj, Vi (j.Atom), Value.bool (j.Add)]) di A81 rfl rfl rfl rfl (Zj (cx).one (Zj (cy).one (Zj (cz).one (Zj rfl (Zj rfl one_nil))))) (Nat.le_of_ble_eq_true rfl) rfl ?_)
     intro hn aJ
     refine Zb (Ze (Zc (Zc ?_)))
     obtain ⟨a4, ao, ag⟩ := Zg ag
     refine W_mid (M := fun f' w' => (fun (a4 : Bool) => ∃ (c8 : PHeap) , PHeap.le c7 c8 ∧ St w0 c8 (Res.box o 63 [Value.string (a.Name), Vi (a.Cost), y, z, aa, i, ab] :: Res.box t 81 [n, l, m, Vi (b.Atom), Value.bool (b.Add)] :: Res.box a0 81 [ak, ai, aj, Vi (j.Atom), Value.bool (j.Add)] :: H) w' ∧ f' 1 = p ∧ f' 2 = Value.pointer (some ⟨o, 0, none⟩) ∧ f' 6 = Value.pointer (some ⟨t, 0, none⟩) ∧ f' 8 = Value.pointer (some ⟨a0, 0, none⟩) ∧ f' 20 = i ∧ f' 21 = Vi ((a.Changes.length : Int)) ∧ f' 22 = Vi ((ap : Int)) ∧ f' 37 = i ∧ f' 38 = Vi ((a.Changes.length : Int)) ∧ f' 39 = Vi ((aA : Int)) ∧ f' 59 = Value.bool (a4)) a4) ?_ ?_
     ·refine Zd (Za rfl rfl (Zp F81_2 rfl rfl rfl (Za rfl rfl (Zn (aJ) A4 rfl rfl rfl (Za rfl rfl (Exec.not rfl rfl (Za rfl rfl (Zm (v := Value.bool (!j.Add)) rfl rfl ?_))))))))
      rcases ite_some ao with ⟨ar, ao⟩ | ⟨ar, ao⟩
      ·refine WL_passes 13 (by rw [ar]; rfl) ?_
       refine Zb (Ze ?_)
       have fT := Zu ao
       subst a4
       exact ⟨c7, (Zv _), ((aJ).f2).f2, aM, bq, aN, rfl, br, bs, bt, aO, aP, aD, rfl⟩
      replace ar := Zk ar
      refine WL_run rfl (Zf rfl (Zx ar)) rfl (Zm (v := p) rfl aM (WL_run rfl (Zf rfl (Zx ar)) rfl (Zp F81_1 rfl rfl rfl (WL_run rfl (Zf rfl (Zx ar)) rfl (Zn (aJ) A3 rfl rfl rfl ?_)))))
      obtain ⟨h8, fl, ao⟩ := Zg ao
      refine WL_run rfl (Zf rfl (Zx ar)) rfl (Tc rfl rfl rfl (Zi rfl (Zi rfl args_nil)) (ref20_has_sim fl aJ (av.mono (Zt (Zt g d) ad))).r ?_)
      rintro _ ho ⟨c9, bS, aK, rfl⟩
      refine WL_run rfl (Zf rfl (Zx ar)) rfl (Exec.not rfl rfl ?_)
      refine WL_passes 2 (by rw [ar]; rfl) ?_
      rcases ite_some ao with ⟨au, ao⟩ | ⟨au, ao⟩
      ·refine WL_passes 6 (by rw [au]; rfl) ?_
       refine Zb (Ze ?_)
       have fU := Zu ao
       subst a4
       exact ⟨c9, bS, ((aK).f2).f2, aM, bq, aN, rfl, br, bs, bt, aO, aP, aD, rfl⟩
      replace au := Zk au
      refine WL_run rfl (Zf rfl (Zx au)) rfl (Zp F81_1 rfl rfl rfl (WL_run rfl (Zf rfl (Zx au)) rfl (Zn (aK) A3 rfl rfl rfl (WL_run rfl (Zf rfl (Zx au)) rfl (Zp F81_1 rfl aN rfl (WL_run rfl (Zf rfl (Zx au)) rfl (Zn ((aK).f2) A3 rfl rfl rfl (WL_run rfl (Zf rfl (Zx au)) rfl (Exec.eql rfl rfl rfl (Za rfl rfl (Exec.pick_f (v := Value.bool (decide (j.Atom = b.Atom))) rfl (Zx au) rfl (Zb (Ze ?_)))))))))))))
      have fV := Zu ao
      subst a4
      exact ⟨c9, bS, ((aK).f2).f2, aM, bq, aN, rfl, br, bs, bt, aO, aP, aD, rfl⟩
     intro gq hp cZ
     obtain ⟨aV, ac, bG, bu, cb, cc, ed, cd, ce, cf, cg, ch, ci, cj⟩ := cZ
     refine (Ze ?_)
     rcases ite_some ag with ⟨a6, ag⟩ | ⟨a6, ag⟩
     ·refine W_cond_t cj a6 (W_exit (at_exit (ib_here (Ze (Zd (Za rfl rfl (Exec.add rfl ci rfl (Za rfl rfl (Zm (v := Vi (IntKind.i64.wrap ((aA : Int) + 1))) rfl rfl (Zb (Ze ?_)))))))))))
      have fW := Zu ag
      subst bg
      refine ⟨_, rfl, ?_⟩; exact ⟨aV, (Zt ad ac), ((((bG).f2).drop).f1).f1, bu, cb, cc, cd, ce, cf, cg, ch, (Eq.trans rfl (wrap_up bO (SliceRep.le (al.mono (Zt g d)))))⟩
     refine W_cond_f cj a6 ?_
     replace a6 := Zk a6
     refine W_skip (Ze (Zc (Zd (Za rfl rfl (Exec.buildSlice (Te := 3) (cs := [Vi ((-1))]) bG rfl (parts_cons (c := [Vi ((-1))]) (cells_of rfl rfl) parts_nil) (fun _ => by kernel_rfl) ?_)))))
     intro fL hq dj
     refine Za rfl rfl (Zm (v := p) rfl bu ?_)
     have dk := St.boxArr (E := (encInt .i64)) (xs := [(-1)]) dj ⟨[Vi ((-1))], [], rfl, rfl, rfl⟩ (by simp [maxLen])
     obtain ⟨aL, fm, ag⟩ := Zg ag
     refine Za rfl rfl (Exec.append_rep (E := (encInt .i64)) (ys := a1) dk S24 Z3 rfl (by decide) rfl rfl rfl (av.mono (Zt (Zt (Zt g d) ad) ac)) fm ?_)
     intro aW hr bj
     refine Za rfl rfl (Exec.len_arr (bj) S24 rfl rfl (Za rfl rfl (Zm (v := Vi (0)) rfl rfl (Zb (Ze ?_)))))
     obtain ⟨b9, cO, dJ, dB, d6⟩ := ctl_some ag
     refine W_mid (M := fun f' w' => ∃ s', (b9 = .next s' ∨ b9 = .brk s') ∧ (fun (_ : Unit) => ∃ (cA : PHeap) , PHeap.le aV cA ∧ St w0 cA (Res.box o 63 [Value.string (a.Name), Vi (a.Cost), y, z, aa, i, ab] :: Res.box t 81 [n, l, m, Vi (b.Atom), Value.bool (b.Add)] :: Res.box a0 81 [ak, ai, aj, Vi (j.Atom), Value.bool (j.Add)] :: Res.arr (encInt .i64) 3 aW aL :: H) w' ∧ f' 1 = p ∧ f' 2 = Value.pointer (some ⟨o, 0, none⟩) ∧ f' 6 = Value.pointer (some ⟨t, 0, none⟩) ∧ f' 8 = Value.pointer (some ⟨a0, 0, none⟩) ∧ f' 20 = i ∧ f' 21 = Vi ((a.Changes.length : Int)) ∧ f' 22 = Vi ((ap : Int)) ∧ f' 37 = i ∧ f' 38 = Vi ((a.Changes.length : Int)) ∧ f' 39 = Vi ((aA : Int)) ∧ f' 62 = aW ∧ f' 63 = Vi ((aL.length : Int))) s') ?_ ?_
     ·refine W_block (W_forC (fun k' s' f' w' => (fun (_ : Unit) => ∃ (cB : PHeap) , PHeap.le aV cB ∧ St w0 cB (Res.box o 63 [Value.string (a.Name), Vi (a.Cost), y, z, aa, i, ab] :: Res.box t 81 [n, l, m, Vi (b.Atom), Value.bool (b.Add)] :: Res.box a0 81 [ak, ai, aj, Vi (j.Atom), Value.bool (j.Add)] :: Res.arr (encInt .i64) 3 aW aL :: H) w' ∧ f' 1 = p ∧ f' 2 = Value.pointer (some ⟨o, 0, none⟩) ∧ f' 6 = Value.pointer (some ⟨t, 0, none⟩) ∧ f' 8 = Value.pointer (some ⟨a0, 0, none⟩) ∧ f' 20 = i ∧ f' 21 = Vi ((a.Changes.length : Int)) ∧ f' 22 = Vi ((ap : Int)) ∧ f' 37 = i ∧ f' 38 = Vi ((a.Changes.length : Int)) ∧ f' 39 = Vi ((aA : Int)) ∧ f' 62 = aW ∧ f' 63 = Vi ((aL.length : Int)) ∧ f' 64 = Vi (k' : Int)) s') cO ?_ ?_ ?_)
      ·have dl := (bj).f3
       exact ⟨aV, (Zv _), ((dl).f3).f3, bu, cb, cc, ed, cd, ce, cf, cg, ch, ci, rfl, rfl, rfl⟩
      ·intro dS gQ bA gr hs d8 cS an dM
       obtain ⟨gL, ae, a2, ck, cl, cm, cn, ee, ef, eg, eh, ei, ej, co, cp, b5⟩ := cS
       refine Zc (Zd (Za rfl rfl (Zq rfl b5 cp (Zb (Ze (Zc (W_true (Zx (decide_eq_true (by omega))) (W_skip (Ze (Zc (W_block (Zc (Zd ?_)))))))))))))
       obtain ⟨cI, aT, an⟩ := Zg an
       obtain ⟨g3, fP, bC⟩ := ((a2).f3).arr_at aT
       refine Za rfl rfl (Exec.index_slice S24 rfl (Eq.trans co bC) b5 (idx_some aT).1 (idx_some aT).2.1 (Za rfl rfl (Exec.load_arr (F := (encInt .i64)) ((a2).f3) bC A3 rfl rfl rfl aT (Sub.refl _) ?_)))
       intro hc fn
       obtain rfl := encInt_val.1 fn
       refine Za rfl rfl (Zo (v := Vi (cI)) rfl rfl (Zb (Ze (Zc (Zd (Za rfl rfl (Exec.load_box_agg (ds := [Value.string (a.Name), Vi (a.Cost), y, z, aa, i, ab]) (a2) A63 rfl cl rfl (Za rfl rfl (Exec.load_box_agg (ds := [n, l, m, Vi (b.Atom), Value.bool (b.Add)]) ((a2).f1) A81 rfl cm rfl (Za rfl rfl (Exec.load_box_agg (ds := [ak, ai, aj, Vi (j.Atom), Value.bool (j.Add)]) ((a2).f2) A81 rfl cn rfl (Za rfl rfl (Exec.buildSlice (Te := 81) (cs := [n, l, m, Vi (b.Atom), Value.bool (b.Add), ak, ai, aj, Vi (j.Atom), Value.bool (j.Add)]) a2 rfl (parts_cons (c := [n, l, m, Vi (b.Atom), Value.bool (b.Add)]) (cells_of rfl rfl) (parts_cons (c := [ak, ai, aj, Vi (j.Atom), Value.bool (j.Add)]) (cells_of rfl rfl) parts_nil)) (fun _ => by kernel_rfl) ?_)))))))))))))
       intro fM ht dm
       refine Za rfl rfl (Zm (v := Vi (cI)) rfl rfl (Za rfl rfl (Zm (v := p) rfl ck ?_)))
       have dn := St.boxArr (E := encGChange) (xs := [b, j]) dm ⟨[n, l, m, Vi (b.Atom), Value.bool (b.Add)], [ak, ai, aj, Vi (j.Atom), Value.bool (j.Add)], rfl, ⟨[n, l, m], [Vi (b.Atom), Value.bool (b.Add)], rfl, ⟨[n], [l, m], rfl, ⟨_, rfl, (bz.mono (Zt (Zt (Zt d ad) ac) ae))⟩, ⟨[l], [m], rfl, ⟨_, rfl, (b0.mono (Zt (Zt (Zt d ad) ac) ae))⟩, ⟨_, rfl, (b1.mono (Zt (Zt (Zt d ad) ac) ae))⟩⟩⟩, ⟨[Vi (b.Atom)], [Value.bool (b.Add)], rfl, rfl, rfl⟩⟩, ⟨[ak, ai, aj, Vi (j.Atom), Value.bool (j.Add)], [], rfl, ⟨[ak, ai, aj], [Vi (j.Atom), Value.bool (j.Add)], rfl, ⟨[ak], [ai, aj], rfl, ⟨_, rfl, (cx.mono (Zt ac ae))⟩, ⟨[ai], [aj], rfl, ⟨_, rfl, (cy.mono (Zt ac ae))⟩, ⟨_, rfl, (cz.mono (Zt ac ae))⟩⟩⟩, ⟨[Vi (j.Atom)], [Value.bool (j.Add)], rfl, rfl, rfl⟩⟩, rfl⟩⟩ (by simp [maxLen])
       obtain ⟨gM, aw, dp, ft⟩ := dn.freezeArr
       obtain ⟨fA, fo, an⟩ := Zg an
       obtain ⟨h9, hA, bb⟩ := fA
       replace an := un3_eq an
       refine Za rfl rfl (Tc rfl rfl rfl (Zi rfl (Zi rfl (Zi rfl (Zi rfl args_nil)))) (ref20_situation_sim fo dp (bc.mono (Zt (Zt (Zt (Zt (Zt g d) ad) ac) ae) aw)) (bd.mono (Zt (Zt (Zt (Zt (Zt g d) ad) ac) ae) aw)) (be.mono (Zt (Zt (Zt (Zt (Zt g d) ad) ac) ae) aw)) (al.mono (Zt (Zt (Zt (Zt (Zt g d) ad) ac) ae) aw)) (bf.mono (Zt (Zt (Zt (Zt (Zt g d) ad) ac) ae) aw)) ft (av.mono (Zt (Zt (Zt (Zt (Zt g d) ad) ac) ae) aw))).r ?_)
       rintro _ hu ⟨cC, b3, b4, bT, bH, rfl, gJ, gK⟩
       refine Za rfl rfl (Zm (v := Value.tuple #[b3, b4, Value.bool (bb)]) rfl rfl (Za rfl rfl (Exec.extract (v := b3) rfl rfl rfl (Za rfl rfl (Exec.extract (v := b4) rfl rfl rfl (Za rfl rfl (Exec.extract (v := Value.bool (bb)) rfl rfl rfl (Za rfl rfl (Zo (v := b3) rfl rfl (Za rfl rfl (Zo (v := b4) rfl rfl (Za rfl rfl (Zo (v := Value.bool (bb)) rfl rfl (Zb (Ze (Zc (Zd (Za rfl rfl (Zm (v := Value.bool (bb)) rfl rfl (Zb (Ze ?_)))))))))))))))))))))
       rcases ite_some an with ⟨a7, an⟩ | ⟨a7, an⟩
       ·refine W_cond_t rfl a7 (Zc (Zd (Za rfl rfl (Zo (v := Value.bool (false)) rfl rfl (Zb (Ze (W_ret (ib_ret (at_ret (at_ret (ib_ret (at_ret (ib_ret (at_ret (at_ret (ib_ret (at_ret (at_ret (ib_ret (at_ret (at_ret (ib_ret (at_ret (at_ret ?_))))))))))))))))))))))))
        have fX := Zu an
        subst bA
        have dD := dJ _ (dM (by intro _ h; cases h))
        have fY := Zu dD
        subst bg
        have dE := dI _ (dL (by intro _ h; cases h))
        have fZ := Zu dE
        subst aH
        have dF := bQ _ (bR (by intro _ h; cases h))
        have ga := Zu dF
        subst r
        refine ⟨_, ret1 rfl, ?_⟩
        exact ⟨cC, (Zt (Zt (Zt (Zt (Zt (Zt g d) ad) ac) ae) aw) bT), ((((bH).drop).drop).drop).drop, rfl⟩
       refine W_cond_f rfl a7 ?_
       replace a7 := Zk a7
       refine W_skip (ib_normal (Ze (Zd (Za rfl rfl (Exec.add rfl b5 rfl (Za rfl rfl (Zm (v := Vi (IntKind.i64.wrap ((dS : Int) + 1))) rfl rfl (Zb (Ze ?_)))))))))
       have gb := Zu an
       subst bA
       refine ⟨_, rfl, ?_⟩; exact ⟨cC, (Zt (Zt ae aw) bT), ((((bH).f3).f3).f3).f3, ck, cl, cm, cn, ee, ef, eg, eh, ei, ej, co, cp, (Eq.trans rfl (wrap_up d8 (bj).arr_le))⟩
      intro gR gs hv cT dN
      obtain ⟨fy, dU, dq, ek, el, em, en, eo, ep, er, et, eu, ev, ew, cq, fC⟩ := cT
      refine Zc (Zd (Za rfl rfl (Zq rfl fC cq (Zb (Ze (Zc (W_false (Zx (decide_eq_false (by omega))) (W_exit (at_exit (at_exit (ib_here (Ze ?_))))))))))))
      refine ⟨_, .inl dN, ?_⟩; exact ⟨fy, dU, ((((dq).f3).f3).f3).f3, ek, el, em, en, eo, ep, er, et, eu, ev, ew, cq⟩
     rintro gu hw ⟨gS, bJ, da⟩
     have ag := bJ.elim (dB _) (d6 _)
     clear bJ
     obtain ⟨fz, dV, dr, ex, ey, ez, g7, e0, e1, e2, e3, e4, e5, g8, g9⟩ := da
     refine (ib_normal (Ze (Zd (Za rfl rfl (Exec.add rfl e5 rfl (Za rfl rfl (Zm (v := Vi (IntKind.i64.wrap ((aA : Int) + 1))) rfl rfl (Zb (Ze ?_)))))))))
     have gc := Zu ag
     subst bg
     refine ⟨_, rfl, ?_⟩; exact ⟨fz, (Zt (Zt ad ac) dV), ((((((dr).f2).drop).f2).drop).f1).f1, ex, ey, ez, e0, e1, e2, e3, e4, (Eq.trans rfl (wrap_up bO (SliceRep.le (al.mono (Zt g d)))))⟩
    intro gT gv hx cU dO
    obtain ⟨f0, dW, dt, e6, e7, e8, e9, eA, eB, eC, cr, fD⟩ := cU
    refine Zc (Zd (Za rfl rfl (Zq rfl fD cr (Zb (Ze (Zc (W_false (Zx (decide_eq_false (by omega))) (W_exit (at_exit (at_exit (ib_here (Ze ?_))))))))))))
    refine ⟨_, .inl dO, ?_⟩; exact ⟨f0, dW, ((dt).f1).f1, e6, e7, e8, e9, eA, eB, eC, cr⟩
   rintro gw hy ⟨gU, bK, db⟩
   have af := bK.elim (dA _) (d5 _)
   clear bK
   obtain ⟨b2, q, du, ct, eD, eE, eF, eG, eH, gA, gB⟩ := db
   refine (Ze (Zc (Zd (Za rfl rfl (Zm (v := p) rfl ct (Za rfl rfl (Zr S24 rfl rfl (av.mono (Zt (Zt g d) q)) (Za rfl rfl (Zm (v := Vi (0)) rfl rfl (Zb (Ze ?_)))))))))))
   obtain ⟨bB, cP, dK, dC, d7⟩ := ctl_some af
   refine W_mid (M := fun f' w' => ∃ s', (bB = .next s' ∨ bB = .brk s') ∧ (fun (_ : Unit) => ∃ (cD : PHeap) , PHeap.le b2 cD ∧ St w0 cD (Res.box o 63 [Value.string (a.Name), Vi (a.Cost), y, z, aa, i, ab] :: Res.box t 81 [n, l, m, Vi (b.Atom), Value.bool (b.Add)] :: H) w' ∧ f' 1 = p ∧ f' 2 = Value.pointer (some ⟨o, 0, none⟩) ∧ f' 6 = Value.pointer (some ⟨t, 0, none⟩) ∧ f' 20 = i ∧ f' 21 = Vi ((a.Changes.length : Int)) ∧ f' 22 = Vi ((ap : Int)) ∧ f' 82 = p ∧ f' 83 = Vi ((a1.length : Int))) s') ?_ ?_
   ·refine W_block (W_forC (fun k' s' f' w' => (fun (_ : Unit) => ∃ (cE : PHeap) , PHeap.le b2 cE ∧ St w0 cE (Res.box o 63 [Value.string (a.Name), Vi (a.Cost), y, z, aa, i, ab] :: Res.box t 81 [n, l, m, Vi (b.Atom), Value.bool (b.Add)] :: H) w' ∧ f' 1 = p ∧ f' 2 = Value.pointer (some ⟨o, 0, none⟩) ∧ f' 6 = Value.pointer (some ⟨t, 0, none⟩) ∧ f' 20 = i ∧ f' 21 = Vi ((a.Changes.length : Int)) ∧ f' 22 = Vi ((ap : Int)) ∧ f' 82 = p ∧ f' 83 = Vi ((a1.length : Int)) ∧ f' 84 = Vi (k' : Int)) s') cP ?_ ?_ ?_)
    ·have dv := (du).f1
     exact ⟨b2, (Zv _), (dv).f1, ct, eD, eE, eF, eG, eH, rfl, rfl, rfl⟩
    ·intro bl gV bh gx hz bP cV x dP
     obtain ⟨f4, u, a3, aQ, aB, aC, bv, bw, bx, aR, aS, aE⟩ := cV
     refine Zc (Zd (Za rfl rfl (Zq rfl aE aS (Zb (Ze (Zc (W_true (Zx (decide_eq_true (by omega))) (W_skip (Ze (Zc (W_block (Zc (Zd ?_)))))))))))))
     obtain ⟨ba, fp, x⟩ := Zg x
     refine Za rfl rfl (Exec.index_rep S24 rfl aR aE (av.mono (Zt (Zt (Zt g d) q) u)) fp ?_)
     intro fN g6 cL
     refine Za rfl rfl (Zw (E := (encInt .i64)) a3 A3 rfl rfl rfl cL ?_)
     intro hd fq
     obtain rfl := encInt_val.1 fq
     refine Za rfl rfl (Zo (v := Vi (ba)) rfl rfl (Zb (Ze (Zc (Zc (Zd (Za rfl rfl (Zm (v := Vi (ba)) rfl rfl (Za rfl rfl (Zp F81_1 rfl aC rfl (Za rfl rfl (Zn ((a3).f1) A3 rfl rfl rfl (Za rfl rfl (Exec.eql rfl rfl rfl (Zb (Ze ?_))))))))))))))))
     rcases ite_some x with ⟨a8, x⟩ | ⟨a8, x⟩
     ·refine W_cond_t rfl a8 (W_exit (at_exit (ib_here (Ze (Zd (Za rfl rfl (Exec.add rfl aE rfl (Za rfl rfl (Zm (v := Vi (IntKind.i64.wrap ((bl : Int) + 1))) rfl rfl (Zb (Ze ?_)))))))))))
      have gd := Zu x
      subst bh
      refine ⟨_, rfl, ?_⟩; exact ⟨f4, u, ((a3).f1).f1, aQ, aB, aC, bv, bw, bx, aR, aS, (Eq.trans rfl (wrap_up bP (SliceRep.le (av.mono (Zt (Zt g d) q)))))⟩
     refine W_cond_f rfl a8 ?_
     replace a8 := Zk a8
     refine W_skip (Ze (Zc (Zd (Za rfl rfl (Exec.load_box_agg (ds := [Value.string (a.Name), Vi (a.Cost), y, z, aa, i, ab]) (a3) A63 rfl aB rfl (Za rfl rfl (Exec.load_box_agg (ds := [n, l, m, Vi (b.Atom), Value.bool (b.Add)]) ((a3).f1) A81 rfl aC rfl (Za rfl rfl (Exec.buildSlice (Te := 81) (cs := [n, l, m, Vi (b.Atom), Value.bool (b.Add)]) a3 rfl (parts_cons (c := [n, l, m, Vi (b.Atom), Value.bool (b.Add)]) (cells_of rfl rfl) parts_nil) (fun _ => by kernel_rfl) ?_)))))))))
     intro fO h0 dw
     refine Za rfl rfl (Zm (v := Vi (ba)) rfl rfl (Za rfl rfl (Zm (v := p) rfl aQ ?_)))
     have dx := St.boxArr (E := encGChange) (xs := [b]) dw ⟨[n, l, m, Vi (b.Atom), Value.bool (b.Add)], [], rfl, ⟨[n, l, m], [Vi (b.Atom), Value.bool (b.Add)], rfl, ⟨[n], [l, m], rfl, ⟨_, rfl, (bz.mono (Zt (Zt d q) u))⟩, ⟨[l], [m], rfl, ⟨_, rfl, (b0.mono (Zt (Zt d q) u))⟩, ⟨_, rfl, (b1.mono (Zt (Zt d q) u))⟩⟩⟩, ⟨[Vi (b.Atom)], [Value.bool (b.Add)], rfl, rfl, rfl⟩⟩, rfl⟩ (by simp [maxLen])
     obtain ⟨gN, ah, dy, fu⟩ := dx.freezeArr
     obtain ⟨fB, fr, x⟩ := Zg x
     obtain ⟨hB, hC, b6⟩ := fB
     replace x := un3_eq x
     refine Za rfl rfl (Tc rfl rfl rfl (Zi rfl (Zi rfl (Zi rfl (Zi rfl args_nil)))) (ref20_situation_sim fr dy (bc.mono (Zt (Zt (Zt (Zt g d) q) u) ah)) (bd.mono (Zt (Zt (Zt (Zt g d) q) u) ah)) (be.mono (Zt (Zt (Zt (Zt g d) q) u) ah)) (al.mono (Zt (Zt (Zt (Zt g d) q) u) ah)) (bf.mono (Zt (Zt (Zt (Zt g d) q) u) ah)) fu (av.mono (Zt (Zt (Zt (Zt g d) q) u) ah))).r ?_)
     rintro _ h1 ⟨cF, aX, aY, az, bk, rfl, fv, fw⟩
     refine Za rfl rfl (Zm (v := Value.tuple #[aX, aY, Value.bool (b6)]) rfl rfl (Za rfl rfl (Exec.extract (v := aX) rfl rfl rfl (Za rfl rfl (Exec.extract (v := aY) rfl rfl rfl (Za rfl rfl (Exec.extract (v := Value.bool (b6)) rfl rfl rfl (Za rfl rfl (Zo (v := aX) rfl rfl (Za rfl rfl (Zo (v := aY) rfl rfl (Za rfl rfl (Zo (v := Value.bool (b6)) rfl rfl (Zb (Ze (Zc ?_))))))))))))))))
     obtain ⟨aG, ay, x⟩ := Zg x
     refine W_mid (M := fun f' w' => (fun (aG : Bool) => ∃ (cG : PHeap) , PHeap.le cF cG ∧ St w0 cG (Res.box o 63 [Value.string (a.Name), Vi (a.Cost), y, z, aa, i, ab] :: Res.box t 81 [n, l, m, Vi (b.Atom), Value.bool (b.Add)] :: H) w' ∧ f' 1 = p ∧ f' 2 = Value.pointer (some ⟨o, 0, none⟩) ∧ f' 6 = Value.pointer (some ⟨t, 0, none⟩) ∧ f' 20 = i ∧ f' 21 = Vi ((a.Changes.length : Int)) ∧ f' 22 = Vi ((ap : Int)) ∧ f' 82 = p ∧ f' 83 = Vi ((a1.length : Int)) ∧ f' 84 = Vi ((bl : Int)) ∧ f' 110 = Value.bool (aG)) aG) ?_ ?_
     ·refine Zd (WL_passes 2 rfl ?_)
      rcases ite_some ay with ⟨am, ay⟩ | ⟨am, ay⟩
      ·refine WL_run rfl (Zf rfl (Zx am)) rfl (Exec.load_box_agg (ds := [Value.string (a.Name), Vi (a.Cost), y, z, aa, i, ab]) (bk) A63 rfl aB rfl (WL_run rfl (Zf rfl (Zx am)) rfl (Zm (v := Vi (ba)) rfl rfl (WL_run rfl (Zf rfl (Zx am)) rfl (Zm (v := aX) rfl rfl (WL_run rfl (Zf rfl (Zx am)) rfl (Zm (v := aY) rfl rfl ?_)))))))
       obtain ⟨fI, fs, ay⟩ := Zg ay
       refine WL_run rfl (Zf rfl (Zx am)) rfl (Tc rfl rfl rfl (Zi rfl (Zi rfl (Zi rfl (Zi rfl args_nil)))) (ref20_deleted_sim fs bk (bc.mono (Zt (Zt (Zt (Zt (Zt g d) q) u) ah) az)) (bd.mono (Zt (Zt (Zt (Zt (Zt g d) q) u) ah) az)) (be.mono (Zt (Zt (Zt (Zt (Zt g d) q) u) ah) az)) (al.mono (Zt (Zt (Zt (Zt (Zt g d) q) u) ah) az)) (bf.mono (Zt (Zt (Zt (Zt (Zt g d) q) u) ah) az)) fv fw).r ?_)
       rintro _ h2 ⟨f5, dX, dz, rfl⟩
       refine WL_run rfl (Zf rfl (Zx am)) rfl (Exec.not rfl rfl (Za rfl rfl (Zs (v := Value.bool (!fI)) rfl (Zx am) rfl (Zb (Ze ?_)))))
       have gf := Zu ay
       subst aG
       exact ⟨f5, dX, ((dz).f1).f1, aQ, aB, aC, bv, bw, bx, aR, aS, aE, rfl⟩
      replace am := Zk am
      refine WL_passes 7 (by rw [am]; rfl) ?_
      refine Zb (Ze ?_)
      have gg := Zu ay
      subst aG
      exact ⟨cF, (Zv _), ((bk).f1).f1, aQ, aB, aC, bv, bw, bx, aR, aS, aE, rfl⟩
     intro gy h3 dc
     obtain ⟨cH, bU, bI, eI, eJ, eK, eL, eM, eN, eO, eP, eQ, cu⟩ := dc
     refine (Ze ?_)
     rcases ite_some x with ⟨a9, x⟩ | ⟨a9, x⟩
     ·refine W_cond_t cu a9 (Zc (Zd (Za rfl rfl (Zo (v := Value.bool (false)) rfl rfl (Zb (Ze (W_ret (ib_ret (at_ret (at_ret (ib_ret (at_ret (ib_ret (at_ret (at_ret (ib_ret (at_ret (at_ret ?_))))))))))))))))))
      have gh := Zu x
      subst bh
      have dG := dK _ (dP (by intro _ h; cases h))
      have gi := Zu dG
      subst aH
      have dH := bQ _ (bR (by intro _ h; cases h))
      have gj := Zu dH
      subst r
      refine ⟨_, ret1 rfl, ?_⟩
      exact ⟨cH, (Zt (Zt (Zt (Zt (Zt (Zt g d) q) u) ah) az) bU), ((bI).drop).drop, rfl⟩
     refine W_cond_f cu a9 ?_
     replace a9 := Zk a9
     refine W_skip (ib_normal (Ze (Zd (Za rfl rfl (Exec.add rfl eQ rfl (Za rfl rfl (Zm (v := Vi (IntKind.i64.wrap ((bl : Int) + 1))) rfl rfl (Zb (Ze ?_)))))))))
     have gk := Zu x
     subst bh
     refine ⟨_, rfl, ?_⟩; exact ⟨cH, (Zt (Zt (Zt u ah) az) bU), ((bI).f1).f1, eI, eJ, eK, eL, eM, eN, eO, eP, (Eq.trans rfl (wrap_up bP (SliceRep.le (av.mono (Zt (Zt g d) q)))))⟩
    intro gW gz h4 cW dQ
    obtain ⟨f6, dY, d0, eR, eS, eT, eU, eV, eW, eX, cv, fE⟩ := cW
    refine Zc (Zd (Za rfl rfl (Zq rfl fE cv (Zb (Ze (Zc (W_false (Zx (decide_eq_false (by omega))) (W_exit (at_exit (at_exit (ib_here (Ze ?_))))))))))))
    refine ⟨_, .inl dQ, ?_⟩; exact ⟨f6, dY, ((d0).f1).f1, eR, eS, eT, eU, eV, eW, eX, cv⟩
   rintro g0 h5 ⟨gX, bL, dd⟩
   have af := bL.elim (dC _) (d7 _)
   clear bL
   obtain ⟨f7, dZ, d1, eY, eZ, gC, fa, fb, fc, gD, gE⟩ := dd
   refine (ib_normal (Ze (Zd (Za rfl rfl (Exec.add rfl fc rfl (Za rfl rfl (Zm (v := Vi (IntKind.i64.wrap ((ap : Int) + 1))) rfl rfl (Zb (Ze ?_)))))))))
   have gl := Zu af
   subst aH
   refine ⟨_, rfl, ?_⟩; exact ⟨f7, (Zt (Zt (Zt g d) q) dZ), ((d1).f1).drop, eY, eZ, fa, fb, (Eq.trans rfl (wrap_up bN (SliceRep.le al)))⟩
  intro gY g1 h6 cX dR
  obtain ⟨f8, ea, d2, fd, fe, ff, cw, fF⟩ := cX
  refine Zc (Zd (Za rfl rfl (Zq rfl fF cw (Zb (Ze (Zc (W_false (Zx (decide_eq_false (by omega))) (W_exit (at_exit (at_exit (ib_here (Ze ?_))))))))))))
  refine ⟨_, .inl dR, ?_⟩; exact ⟨f8, ea, d2, fd, fe, ff, cw⟩
 rintro g2 h7 ⟨gZ, bM, de⟩
 have hm := bM.elim (d9 _) (d4 _)
 clear bM
 obtain ⟨f9, eb, d3, gF, gG, gH, gI⟩ := de
 refine (Ze (Zc (Zd (Za rfl rfl (Zo (v := Value.bool (true)) rfl rfl (Zb (Ze (W_ret ?_))))))))
 have gm := Zu hm
 subst r
 refine ⟨_, ret1 rfl, ?_⟩
 exact ⟨f9, eb, (d3).drop, rfl⟩
theorem ref20_Balanced_sim {w0 w : World} {s : PHeap} {H : List Res} {u : Ground} {ac : (List Int)} {m : Value} {n : Value} {o : Value} {p : Value} {q : Value} {b : Value} {r : Bool} (hm : ref20_Balanced_p u ac = some r) (hS : St w0 s (H) w) (ba : SliceRep encAtom s m u.Atoms) (co : SliceRep encGFluent s n u.Fluents) (bb : SliceRep (encInt .i64) s o u.Init) (cp : SliceRep encCond s p u.Goal) (ax : SliceRep encGOp s q u.Ops) (af : SliceRep (encInt .i64) s b ac) :
  Calls Tryz.prog 12 #[Value.agg #[m, n, o, p, q], b] w fun e w' => ∃ v, e = .returned v ∧ ((fun (cn : Bool) => ∃ (aR : PHeap) , PHeap.le s aR ∧ St w0 aR (H) w' ∧ v = Value.bool (cn)) r) := by
 unfold ref20_Balanced_p at hm
 refine calls_of_W Tryz.func12 rfl rfl (Zc (Zd (Za rfl rfl (Exec.box (cs := [m, n, o, p, q]) hS rfl rfl rfl ?_))))
 intro d da bp
 refine Za rfl rfl (Zo (v := Value.bool (false)) rfl rfl (Zb (Ze (Zc (Zd (Za rfl rfl (Zo (v := Vi (0)) rfl rfl (Zb (Ze (Zc (Zc (Zd (Za rfl rfl (Zm (v := b) rfl rfl (Za rfl rfl (Zr S24 rfl rfl af (Za rfl rfl (Zm (v := Vi (0)) rfl rfl (Zb (Ze ?_))))))))))))))))))))
 obtain ⟨a6, bf, b3, bz, bu⟩ := ctl_some hm
 refine W_mid (M := fun f' w' => ∃ s', (a6 = .next s' ∨ a6 = .brk s') ∧ (fun (a2 : Int) => ∃ (aS : PHeap) , PHeap.le s aS ∧ St w0 aS (Res.box d 28 [m, n, o, p, q] :: H) w' ∧ f' 1 = b ∧ f' 2 = Value.pointer (some ⟨d, 0, none⟩) ∧ f' 5 = Vi (a2) ∧ f' 9 = b ∧ f' 10 = Vi ((ac.length : Int))) s') ?_ ?_
 ·refine W_block (W_forC (fun k' s' f' w' => (fun (ae : Int) => ∃ (aT : PHeap) , PHeap.le s aT ∧ St w0 aT (Res.box d 28 [m, n, o, p, q] :: H) w' ∧ f' 1 = b ∧ f' 2 = Value.pointer (some ⟨d, 0, none⟩) ∧ f' 5 = Vi (ae) ∧ f' 9 = b ∧ f' 10 = Vi ((ac.length : Int)) ∧ f' 11 = Vi (k' : Int)) s') bf ?_ ?_ ?_)
  ·exact ⟨s, (Zv _), bp, rfl, rfl, rfl, rfl, rfl, rfl⟩
  ·intro x ae a7 c8 db bw bh c b5
   obtain ⟨aq, ad, y, am, an, av, ao, ap, aa⟩ := bh
   refine Zc (Zd (Za rfl rfl (Zq rfl aa ap (Zb (Ze (Zc (W_true (Zx (decide_eq_true (by omega))) (W_skip (Ze (Zc (W_block (Zc (Zd (Za rfl rfl (Zm (v := Vi ((x : Int))) rfl aa ?_)))))))))))))))
   obtain ⟨t, bT, c⟩ := Zg c
   refine Za rfl rfl (Exec.index_rep S24 rfl ao aa (af.mono ad) bT ?_)
   intro cq cG bc
   refine Za rfl rfl (Zw (E := (encInt .i64)) y A3 rfl rfl rfl bc ?_)
   intro cX bU
   obtain rfl := encInt_val.1 bU
   refine Za rfl rfl (Zo (v := Vi ((x : Int))) rfl rfl (Za rfl rfl (Zo (v := Vi (t)) rfl rfl (Zb (Ze (Zc (Zc ?_)))))))
   obtain ⟨ab, a, c⟩ := Zg c
   refine W_mid (M := fun f' w' => (fun (ab : Bool) => ∃ (aU : PHeap) , PHeap.le aq aU ∧ St w0 aU (Res.box d 28 [m, n, o, p, q] :: H) w' ∧ f' 1 = b ∧ f' 2 = Value.pointer (some ⟨d, 0, none⟩) ∧ f' 5 = Vi (ae) ∧ f' 7 = Vi (t) ∧ f' 9 = b ∧ f' 10 = Vi ((ac.length : Int)) ∧ f' 11 = Vi ((x : Int)) ∧ f' 37 = Value.bool (ab)) ab) ?_ ?_
   ·refine Zd (Za rfl rfl (Zm (v := Vi (t)) rfl rfl (Za rfl rfl (Zq rfl rfl rfl (Za rfl rfl (Zm (v := Value.bool (decide (t < 0))) rfl rfl ?_))))))
    rcases ite_some a with ⟨j, a⟩ | ⟨j, a⟩
    ·refine WL_passes 19 (by rw [j]; rfl) ?_
     refine Zb (Ze ?_)
     have cu := Zu a
     subst ab
     exact ⟨aq, (Zv _), y, am, an, av, rfl, ao, ap, aa, rfl⟩
    replace j := Zk j
    refine WL_run rfl (Zf rfl (Zx j)) rfl (Zm (v := Vi (t)) rfl rfl (WL_run rfl (Zf rfl (Zx j)) rfl (Zp F28_0 rfl an rfl (WL_run rfl (Zf rfl (Zx j)) rfl (Zn (y) A22 rfl rfl rfl (WL_run rfl (Zf rfl (Zx j)) rfl (Zr S22 rfl rfl (ba.mono ad) (WL_run rfl (Zf rfl (Zx j)) rfl (Exec.geq rfl rfl rfl ?_)))))))))
    refine WL_passes 2 (by rw [j]; rfl) ?_
    rcases ite_some a with ⟨i, a⟩ | ⟨i, a⟩
    ·refine WL_passes 12 (by rw [i]; rfl) ?_
     refine Zb (Ze ?_)
     have cv := Zu a
     subst ab
     exact ⟨aq, (Zv _), y, am, an, av, rfl, ao, ap, aa, rfl⟩
    replace i := Zk i
    refine WL_run rfl (Zf rfl (Zx i)) rfl (Zm (v := Vi ((x : Int))) rfl rfl (WL_run rfl (Zf rfl (Zx i)) rfl (Exec.gtr rfl rfl rfl (WL_run rfl (Zf rfl (Zx i)) rfl (Zm (v := Value.bool (decide (0 < (x : Int)))) rfl rfl ?_)))))
    rcases ite_some a with ⟨g, a⟩ | ⟨g, a⟩
    ·refine WL_run rfl (Zf rfl (Zx g)) rfl (Zm (v := b) rfl am (WL_run rfl (Zf rfl (Zx g)) rfl (Zm (v := Vi ((x : Int))) rfl rfl (WL_run rfl (Zf rfl (Zx g)) rfl (Exec.sub rfl rfl rfl ?_)))))
     obtain ⟨aZ, bV, a⟩ := Zg a
     refine WL_run rfl (Zf rfl (Zx g)) rfl (Exec.index_rep S24 rfl rfl rfl (af.mono ad) bV ?_)
     intro cr cH bd
     refine WL_run rfl (Zf rfl (Zx g)) rfl (Zw (E := (encInt .i64)) y A3 rfl rfl rfl bd ?_)
     intro cY bW
     obtain rfl := encInt_val.1 bW
     refine WL_run rfl (Zf rfl (Zx g)) rfl (Zm (v := Vi (t)) rfl rfl (WL_run rfl (Zf rfl (Zx g)) rfl (Exec.geq rfl rfl rfl (WL_run rfl (Zf rfl (Zx i)) rfl (Zs (v := Value.bool (decide (t ≤ aZ))) rfl (Zx g) rfl (Za rfl rfl (Exec.pick_f (v := Value.bool (decide (t ≤ aZ))) rfl (Zx i) rfl (Zb (Ze ?_)))))))))
     have cw := Zu a
     subst ab
     exact ⟨aq, (Zv _), y, am, an, av, rfl, ao, ap, aa, rfl⟩
    replace g := Zk g
    refine WL_passes 7 (by rw [g]; rfl) ?_
    refine WL_run rfl (Zf rfl (Zx i)) rfl (Exec.pick_f (v := Value.bool (false)) rfl rfl rfl (Za rfl rfl (Exec.pick_f (v := Value.bool (false)) rfl (Zx i) rfl (Zb (Ze ?_)))))
    have cx := Zu a
    subst ab
    exact ⟨aq, (Zv _), y, am, an, av, rfl, ao, ap, aa, rfl⟩
   intro c9 dc bl
   obtain ⟨cg, a1, ay, aF, a3, aG, bE, aH, aI, aJ, aK⟩ := bl
   refine (Ze ?_)
   rcases ite_some c with ⟨ag, c⟩ | ⟨ag, c⟩
   ·refine W_cond_t aK ag (Zc (Zd (Za rfl rfl (Zo (v := Value.bool (false)) rfl rfl (Zb (Ze (W_ret (at_ret (ib_ret (at_ret (at_ret (ib_ret (at_ret (at_ret ?_))))))))))))))
    have cy := Zu c
    subst a7
    have b1 := b3 _ (b5 (by intro _ h; cases h))
    have cz := Zu b1
    subst r
    refine ⟨_, ret1 rfl, ?_⟩
    exact ⟨cg, (Zt ad a1), (ay).drop, rfl⟩
   refine W_cond_f aK ag ?_
   replace ag := Zk ag
   refine W_skip (Ze (Zc (Zd (Za rfl rfl (Zp F28_2 rfl a3 rfl (Za rfl rfl (Zn (ay) A24 rfl rfl rfl (Za rfl rfl (Zm (v := Vi (t)) rfl bE ?_)))))))))
   obtain ⟨dm, bX, c⟩ := Zg c
   refine Za rfl rfl (Tc rfl rfl rfl (Zi rfl (Zi rfl args_nil)) (ref20_has_sim bX ay (bb.mono (Zt ad a1))).r ?_)
   rintro _ dd ⟨a4, b9, aA, rfl⟩
   refine Zb (Ze ?_)
   obtain ⟨al, ak, c⟩ := Zg c
   refine W_mid (M := fun f' w' => (fun (al : Int) => ∃ (aV : PHeap) , PHeap.le a4 aV ∧ St w0 aV (Res.box d 28 [m, n, o, p, q] :: H) w' ∧ f' 1 = b ∧ f' 2 = Value.pointer (some ⟨d, 0, none⟩) ∧ f' 5 = Vi (al) ∧ f' 9 = b ∧ f' 10 = Vi ((ac.length : Int)) ∧ f' 11 = Vi ((x : Int))) al) ?_ ?_
   ·rcases ite_some ak with ⟨ah, ak⟩ | ⟨ah, ak⟩
    ·refine W_cond_t rfl ah (Zd (Za rfl rfl (Zm (v := Vi (ae)) rfl aG (Za rfl rfl (Exec.add rfl rfl rfl (Za rfl rfl (Zo (v := Vi (IntKind.i64.wrap (ae + 1))) rfl rfl (Zb (Ze ?_)))))))))
     have c0 := Zu ak
     subst al
     exact ⟨a4, (Zv _), aA, aF, a3, rfl, aH, aI, aJ⟩
    refine W_cond_f rfl ah ?_
    replace ah := Zk ah
    refine W_skip (Ze ?_)
    have c1 := Zu ak
    subst al
    exact ⟨a4, (Zv _), aA, aF, a3, aG, aH, aI, aJ⟩
   intro cA de bm
   obtain ⟨ch, bA, bq, bF, bG, bH, bI, bJ, bK⟩ := bm
   refine (ib_normal (Ze (Zd (Za rfl rfl (Exec.add rfl bK rfl (Za rfl rfl (Zm (v := Vi (IntKind.i64.wrap ((x : Int) + 1))) rfl rfl (Zb (Ze ?_)))))))))
   have c2 := Zu c
   subst a7
   refine ⟨_, rfl, ?_⟩; exact ⟨ch, (Zt (Zt (Zt ad a1) b9) bA), bq, bF, bG, bH, bI, bJ, (Eq.trans rfl (wrap_up bw (SliceRep.le af)))⟩
  intro ae cB df bi b6
  obtain ⟨ci, bB, br, bL, bM, bN, bO, aL, cl⟩ := bi
  refine Zc (Zd (Za rfl rfl (Zq rfl cl aL (Zb (Ze (Zc (W_false (Zx (decide_eq_false (by omega))) (W_exit (at_exit (at_exit (ib_here (Ze ?_))))))))))))
  refine ⟨_, .inl b6, ?_⟩; exact ⟨ci, bB, br, bL, bM, bN, bO, aL⟩
 rintro cC dg ⟨a2, aC, bn⟩
 have hm := aC.elim (bz _) (bu _)
 clear aC
 obtain ⟨aw, z, az, bP, aM, bQ, cJ, cK⟩ := bn
 refine (Ze (Zc (Zc (Zd (Za rfl rfl (Zm (v := Vi (a2)) rfl bQ (Za rfl rfl (Exec.gtr rfl rfl rfl (Zb (Ze ?_))))))))))
 rcases ite_some hm with ⟨ai, hm⟩ | ⟨ai, hm⟩
 ·refine W_cond_t rfl ai (Zc (Zd (Za rfl rfl (Zo (v := Value.bool (false)) rfl rfl (Zb (Ze (W_ret (at_ret ?_))))))))
  have c3 := Zu hm
  subst r
  refine ⟨_, ret1 rfl, ?_⟩
  exact ⟨aw, z, (az).drop, rfl⟩
 refine W_cond_f rfl ai ?_
 replace ai := Zk ai
 refine W_skip (Ze (Zc (Zc (Zd (Za rfl rfl (Zp F28_4 rfl aM rfl (Za rfl rfl (Zn (az) A26 rfl rfl rfl (Za rfl rfl (Zr S26 rfl rfl (ax.mono z) (Za rfl rfl (Zm (v := Vi (0)) rfl rfl (Zb (Ze ?_))))))))))))))
 obtain ⟨a8, bg, b4, b0, bv⟩ := ctl_some hm
 refine W_mid (M := fun f' w' => ∃ s', (a8 = .next s' ∨ a8 = .brk s') ∧ (fun (_ : Unit) => ∃ (aW : PHeap) , PHeap.le aw aW ∧ St w0 aW (Res.box d 28 [m, n, o, p, q] :: H) w' ∧ f' 1 = b ∧ f' 2 = Value.pointer (some ⟨d, 0, none⟩) ∧ f' 49 = Vi ((u.Ops.length : Int))) s') ?_ ?_
 ·refine W_block (W_forC (fun k' s' f' w' => (fun (_ : Unit) => ∃ (aX : PHeap) , PHeap.le aw aX ∧ St w0 aX (Res.box d 28 [m, n, o, p, q] :: H) w' ∧ f' 1 = b ∧ f' 2 = Value.pointer (some ⟨d, 0, none⟩) ∧ f' 49 = Vi ((u.Ops.length : Int)) ∧ f' 50 = Vi (k' : Int)) s') bg ?_ ?_ ?_)
  ·exact ⟨aw, (Zv _), az, bP, aM, rfl, rfl⟩
  ·intro ar cP a9 cD dh bx bj l b7
   obtain ⟨cO, au, a0, aN, aO, aP, a5⟩ := bj
   refine Zc (Zd (Za rfl rfl (Zq rfl a5 aP (Zb (Ze (Zc (W_true (Zx (decide_eq_true (by omega))) (W_skip (Ze (Zc (W_block (Zc (Zd (Za rfl rfl (Zm (v := Vi ((ar : Int))) rfl a5 (Za rfl rfl (Zo (v := Vi ((ar : Int))) rfl rfl (Zb (Ze (Zc (Zd (Za rfl rfl (Zp F28_4 rfl aO rfl (Za rfl rfl (Zn (a0) A26 rfl rfl rfl (Za rfl rfl (Zm (v := Vi ((ar : Int))) rfl rfl ?_)))))))))))))))))))))))))))
   obtain ⟨dl, bY, l⟩ := Zg l
   refine Za rfl rfl (Exec.index_rep S26 rfl rfl rfl (ax.mono (Zt z au)) bY ?_)
   intro ct cI be
   refine Za rfl rfl (Zw (E := encGOp) a0 A63 rfl rfl rfl be ?_)
   intro cZ bZ
   obtain ⟨cS, cT, cU, cV, cW, rfl, cb, cc, cd, ce, cf⟩ := encGOp_val.1 bZ
   refine Za rfl rfl (Zm (v := b) rfl aN ?_)
   obtain ⟨dn, ca, l⟩ := Zg l
   refine Za rfl rfl (Tc rfl rfl rfl (Zi rfl (Zi rfl args_nil)) (ref20_operator_sim ca a0 cb cc cd ce cf (af.mono (Zt z au))).r ?_)
   rintro _ di ⟨aY, aE, aB, rfl⟩
   refine Za rfl rfl (Exec.not rfl rfl (Zb (Ze ?_)))
   rcases ite_some l with ⟨aj, l⟩ | ⟨aj, l⟩
   ·refine W_cond_t rfl aj (Zc (Zd (Za rfl rfl (Zo (v := Value.bool (false)) rfl rfl (Zb (Ze (W_ret (ib_ret (at_ret (at_ret (ib_ret (at_ret (at_ret ?_)))))))))))))
    have c4 := Zu l
    subst a9
    have b2 := b4 _ (b7 (by intro _ h; cases h))
    have c5 := Zu b2
    subst r
    refine ⟨_, ret1 rfl, ?_⟩
    exact ⟨aY, (Zt (Zt z au) aE), (aB).drop, rfl⟩
   refine W_cond_f rfl aj ?_
   replace aj := Zk aj
   refine W_skip (ib_normal (Ze (Zd (Za rfl rfl (Exec.add rfl a5 rfl (Za rfl rfl (Zm (v := Vi (IntKind.i64.wrap ((ar : Int) + 1))) rfl rfl (Zb (Ze ?_)))))))))
   have c6 := Zu l
   subst a9
   refine ⟨_, rfl, ?_⟩; exact ⟨aY, (Zt au aE), aB, aN, aO, aP, (Eq.trans rfl (wrap_up bx (SliceRep.le (ax.mono z))))⟩
  intro cQ cE dj bk b8
  obtain ⟨cj, bC, bs, bR, bS, aQ, cm⟩ := bk
  refine Zc (Zd (Za rfl rfl (Zq rfl cm aQ (Zb (Ze (Zc (W_false (Zx (decide_eq_false (by omega))) (W_exit (at_exit (at_exit (ib_here (Ze ?_))))))))))))
  refine ⟨_, .inl b8, ?_⟩; exact ⟨cj, bC, bs, bR, bS, aQ⟩
 rintro cF dk ⟨cR, aD, bo⟩
 have hm := aD.elim (b0 _) (bv _)
 clear aD
 obtain ⟨ck, bD, bt, cL, cM, cN⟩ := bo
 refine (Ze (Zc (Zd (Za rfl rfl (Zo (v := Value.bool (true)) rfl rfl (Zb (Ze (W_ret ?_))))))))
 have c7 := Zu hm
 subst r
 refine ⟨_, ret1 rfl, ?_⟩
 exact ⟨ck, (Zt z bD), (bt).drop, rfl⟩
theorem law20_InvariantBalances_sim {w0 w : World} {s : PHeap} {H : List Res} {fu : Nat} {g1 : Ground} {group12 : (List Int)} {v2 : Value} {v4 : Value} {v6 : Value} {v8 : Value} {v10 : Value} {v13 : Value} {r : Bool} (hm : law20_InvariantBalances_p fu g1 group12 = some r) (hS : St w0 s (H) w) (a3 : SliceRep encAtom s v2 g1.Atoms) (a5 : SliceRep encGFluent s v4 g1.Fluents) (a7 : SliceRep (encInt .i64) s v6 g1.Init) (a9 : SliceRep encCond s v8 g1.Goal) (a11 : SliceRep encGOp s v10 g1.Ops) (a14 : SliceRep (encInt .i64) s v13 group12) (ht : TabQ Tryz.prog s) :
  Calls Tryz.prog 3 #[Value.agg #[v2, v4, v6, v8, v10], v13] w fun e w' => ∃ v, e = .returned v ∧ ((fun (y16 : Bool) => ∃ (y : PHeap) , PHeap.le s y ∧ St w0 y (H) w' ∧ v = Value.bool (y16)) r) := by
 unfold law20_InvariantBalances_p at hm
 refine calls_of_W Tryz.func3 rfl rfl (Zc (Zd (Za rfl rfl (Exec.box (cs := [v2, v4, v6, v8, v10]) hS rfl rfl rfl ?_))))
 intro p a4 ac
 refine Za rfl rfl (Zo (v := Value.bool (false)) rfl rfl (Zb (Ze (Zc (Zc ?_)))))
 obtain ⟨i, b, hm⟩ := Zg hm
 refine W_mid (M := fun f' w' => (fun (i : Bool) => ∃ (z : PHeap) , PHeap.le s z ∧ St w0 z (Res.box p 28 [v2, v4, v6, v8, v10] :: H) w' ∧ f' 1 = v13 ∧ f' 2 = Value.pointer (some ⟨p, 0, none⟩) ∧ f' 16 = Value.bool (i)) i) ?_ ?_
 ·refine Zd ?_
  obtain ⟨ap, ah, b⟩ := Zg b
  refine Za rfl rfl (Tc rfl rfl rfl args_nil (law20_awake_sim ah ac  ht).r ?_)
  rintro _ a6 ⟨am, c, l, rfl⟩
  refine Za rfl rfl (Exec.not rfl rfl (Za rfl rfl (Zm (v := Value.bool (!ap)) rfl rfl ?_)))
  rcases ite_some b with ⟨d, b⟩ | ⟨d, b⟩
  ·refine WL_passes 9 (by rw [d]; rfl) ?_
   refine Zb (Ze ?_)
   have av := Zu b
   subst i
   exact ⟨am, c, l, rfl, rfl, rfl⟩
  replace d := Zk d
  refine WL_run rfl (Zf rfl (Zx d)) rfl (Exec.load_box_agg (ds := [v2, v4, v6, v8, v10]) (l) A28 rfl rfl rfl ?_)
  obtain ⟨aE, ai, b⟩ := Zg b
  refine WL_run rfl (Zf rfl (Zx d)) rfl (Tc rfl rfl rfl (Zi rfl args_nil) (law20_few_sim ai l (a3.mono c) (a5.mono c) (a7.mono c) (a9.mono c) (a11.mono c)).r ?_)
  rintro _ a8 ⟨aa, m, t, rfl⟩
  refine WL_run rfl (Zf rfl (Zx d)) rfl (Exec.not rfl rfl ?_)
  refine WL_passes 2 (by rw [d]; rfl) ?_
  rcases ite_some b with ⟨g, b⟩ | ⟨g, b⟩
  ·refine WL_passes 4 (by rw [g]; rfl) ?_
   refine Zb (Ze ?_)
   have aw := Zu b
   subst i
   exact ⟨aa, (Zt c m), t, rfl, rfl, rfl⟩
  replace g := Zk g
  refine WL_run rfl (Zf rfl (Zx g)) rfl (Zm (v := v13) rfl rfl (WL_run rfl (Zf rfl (Zx g)) rfl (Zr S24 rfl rfl (a14.mono (Zt c m)) (WL_run rfl (Zf rfl (Zx g)) rfl (Exec.gtr rfl rfl rfl (Za rfl rfl (Exec.pick_f (v := Value.bool (decide (20 < (group12.length : Int)))) rfl (Zx g) rfl (Zb (Ze ?_)))))))))
  have ax := Zu b
  subst i
  exact ⟨aa, (Zt c m), t, rfl, rfl, rfl⟩
 intro a0 aA ab
 obtain ⟨a1, a, k, n, o, x⟩ := ab
 refine (Ze ?_)
 rcases ite_some hm with ⟨j, hm⟩ | ⟨j, hm⟩
 ·refine W_cond_t x j (Zc (Zd ?_))
  obtain ⟨aq, aj, hm⟩ := Zg hm
  refine Za rfl rfl (Tc rfl rfl rfl args_nil (law20_awake_sim aj k  (ht.mono a)).r ?_)
  rintro _ aB ⟨an, af, ad, rfl⟩
  refine Za rfl rfl (Zo (v := Value.bool (aq)) rfl rfl (Zb (Ze (W_ret (at_ret ?_)))))
  have ay := Zu hm
  subst r
  refine ⟨_, ret1 rfl, ?_⟩
  exact ⟨an, (Zt a af), (ad).drop, rfl⟩
 refine W_cond_f x j ?_
 replace j := Zk j
 refine W_skip (Ze (Zc (W_dl (n0 := 7) (.q 0 (.q 1 (.q 3 (.q 4 (.e 2 [3, 4] (.e 5 [] (.q 6 .done))))))) hmix (by kernel_rfl) (by kernel_rfl) (DL_q rfl rfl (Exec.load_box_agg (ds := [v2, v4, v6, v8, v10]) (k.drew) A28 rfl o rfl ⟨rfl, ?_⟩)))))
 refine DL_q rfl rfl (Zm (v := v13) rfl n ⟨rfl, ?_⟩)
 refine DL_q rfl rfl (Exec.load_box_agg (ds := [v2, v4, v6, v8, v10]) (k.drew) A28 rfl o rfl ⟨rfl, ?_⟩)
 refine DL_q rfl rfl (Zm (v := v13) rfl n ⟨rfl, ?_⟩)
 obtain ⟨ar, ak, hm⟩ := Zg hm
 refine DL_e rfl rfl (Tc rfl rfl rfl (Zi rfl (Zi rfl args_nil)) (invariant_Balanced_sim ak k.drew (a3.mono a) (a5.mono a) (a7.mono a) (a9.mono a) (a11.mono a) (a14.mono a)).r ?_)
 rintro _ aC ⟨a2, h, u, rfl⟩
 refine ⟨(ag_cons (ag_r rfl rfl (Exec.load_box_agg (ds := [v2, v4, v6, v8, v10]) (u) A28 rfl o rfl ⟨rfl, rfl⟩)) (ag_cons (ag_r rfl rfl (Zm (v := v13) rfl n ⟨rfl, rfl⟩)) ag_nil)), ?_⟩
 obtain ⟨au, al, hm⟩ := Zg hm
 refine DL_e rfl rfl (Tc rfl rfl rfl (Zi rfl (Zi rfl args_nil)) (ref20_Balanced_sim al u (a3.mono (Zt a h)) (a5.mono (Zt a h)) (a7.mono (Zt a h)) (a9.mono (Zt a h)) (a11.mono (Zt a h)) (a14.mono (Zt a h))).r ?_)
 rintro _ aD ⟨ao, ag, ae, rfl⟩
 refine ⟨ag_nil, ?_⟩
 refine DL_q rfl rfl (Exec.bool_eql Tryz.underlying4 rfl rfl rfl ⟨rfl, ?_⟩)
 refine DL_done (Za rfl rfl (Zo (v := Value.bool ((ar == au))) rfl rfl (Zb (Ze (W_ret ?_)))))
 have az := Zu hm
 subst r
 refine ⟨_, ret1 rfl, ?_⟩
 exact ⟨ao, (Zt (Zt a h) ag), (ae).drop, rfl⟩
end Go.Pw
