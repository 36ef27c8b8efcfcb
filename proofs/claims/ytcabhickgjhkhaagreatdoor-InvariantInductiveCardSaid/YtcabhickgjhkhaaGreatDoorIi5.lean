/-
  The walks (printed by my generator).
-/
import Derived.Test.YtcabhickgjhkhaaGreatDoorL29
import Derived.Test.YtcabhickgjhkhaaGreatDoorL27
import Derived.Test.YtcabhickgjhkhaaGreatDoorIi4
set_option maxRecDepth 100000
set_option maxHeartbeats 4000000
set_option linter.unusedVariables false
namespace Go.Pw
open Go.Proofs
theorem invariant_keeps_sim {w0 w : World} {s : PHeap} {H : List Res} {b : GOp} {a5 : (List Int)} {x : Value} {y : Value} {z : Value} {q : Value} {aa : Value} {o : Value} {r : Bool} (hm : invariant_keeps_p b a5 = some r) (hS : St w0 s (H) w) (bn : SliceRep (encInt .i64) s x b.Pre.Pos) (bo : SliceRep (encInt .i64) s y b.Pre.Neg) (bp : SliceRep encGTest s z b.Pre.Tests) (a4 : SliceRep encGChange s q b.Changes) (bq : SliceRep encGAssign s aa b.Assigns) (ay : SliceRep (encInt .i64) s o a5) :
  Calls Tryz.prog 45 #[Value.agg #[Value.string (b.Name), Vi (b.Cost), x, y, z, q, aa], o] w fun e w' => ∃ v, e = .returned v ∧ ((fun (gS : Bool) => ∃ (cT : PHeap) , PHeap.le s cT ∧ St w0 cT (H) w' ∧ v = Value.bool (gS)) r) := by
 unfold invariant_keeps_p at hm
 refine calls_of_W Tryz.func45 rfl rfl (Zc (Zd (Za rfl rfl (Exec.box (cs := [Value.string (b.Name), Vi (b.Cost), x, y, z, q, aa]) hS rfl rfl rfl ?_))))
 intro i iz ca
 refine Za rfl rfl (Zo (v := Value.bool (false)) rfl rfl (Zb (Ze (Zc (Zd (Za rfl rfl (Zo (v := Value.slice none 0 0) rfl rfl (Zb (Ze (Zc (Zc (Zd (Za rfl rfl (Zp F63_3 rfl rfl rfl (Za rfl rfl (Zn (ca) A60 rfl rfl rfl (Za rfl rfl (Zr S60 rfl rfl a4 (Za rfl rfl (Zm (v := Vi (0)) rfl rfl (Zb (Ze ?_))))))))))))))))))))))
 obtain ⟨ag, dq, hm⟩ := Zg hm
 refine W_block (W_forS (fun k' s' f' w' => (fun (ag : (List GChange)) => ∃ (cU : PHeap) (aq : Value), PHeap.le s cU ∧ St w0 cU (Res.box i 63 [Value.string (b.Name), Vi (b.Cost), x, y, z, q, aa] :: Res.arr encGChange 81 aq ag :: H) w' ∧ f' 1 = o ∧ f' 2 = Value.pointer (some ⟨i, 0, none⟩) ∧ f' 5 = aq ∧ f' 23 = q ∧ f' 24 = Vi ((b.Changes.length : Int)) ∧ f' 25 = Vi (k' : Int)) s') dq ?_ ?_ ?_)
 ·have dD := ca.nilArr encGChange 81
  exact ⟨s, (Value.slice none 0 0), (Zv _), (dD).f1, rfl, rfl, rfl, rfl, rfl, rfl⟩
 ·intro b0 ag g5 hz i0 ep dw aw
  obtain ⟨ie, aq, b2, cb, b4, cr, ct, b5, b6, bi⟩ := dw
  refine Zc (Zd (Za rfl rfl (Zq rfl bi b6 (Zb (Ze (Zc (W_true (Zx (decide_eq_true (by omega))) (W_skip (Ze (Zc (W_block (Zc (Zd ?_)))))))))))))
  obtain ⟨t, gm, aw⟩ := Zg aw
  refine Za rfl rfl (Exec.index_rep S60 rfl b5 bi (a4.mono b2) gm ?_)
  intro gU hK dl
  refine Za rfl rfl (Zw (E := encGChange) cb A81 rfl rfl rfl dl ?_)
  intro iu gn
  obtain ⟨ax, au, av, rfl, cM, cN, cO⟩ := encGChange_val.1 gn
  refine Za rfl rfl (Exec.alloc (cs := [Value.slice none 0 0, Value.slice none 0 0, Value.slice none 0 0, Vi (0), Value.bool (false)]) cb Z81 rfl rfl ?_)
  intro bT i1 dE
  refine Za rfl rfl (Exec.store_box (ds := [ax, au, av, Vi (t.Atom), Value.bool (t.Add)]) (es := [ax, au, av, Vi (t.Atom), Value.bool (t.Add)]) dE A81 rfl rfl rfl rfl (Zj (cM).one (Zj (cN).one (Zj (cO).one (Zj rfl (Zj rfl one_nil))))) (Nat.le_of_ble_eq_true rfl) rfl ?_)
  intro i2 cc
  refine Zb (Ze (Zc (Zd (Za rfl rfl (Zm (v := o) rfl b4 (Za rfl rfl (Zp F81_1 rfl rfl rfl (Za rfl rfl (Zn (cc) A3 rfl rfl rfl ?_)))))))))
  obtain ⟨gH, go, aw⟩ := Zg aw
  obtain ⟨bP, aJ⟩ := gH
  replace aw := un2_eq aw
  refine Za rfl rfl (Tc rfl rfl rfl (Zi rfl (Zi rfl args_nil)) (slices_BinarySearch_int_sim go cc (ay.mono b2)).r ?_)
  rintro _ i3 ⟨bI, aS, bv, rfl⟩
  refine Za rfl rfl (Zm (v := Value.tuple #[Vi (bP), Value.bool (aJ)]) rfl rfl (Za rfl rfl (Exec.extract (v := Vi (bP)) rfl rfl rfl (Za rfl rfl (Exec.extract (v := Value.bool (aJ)) rfl rfl rfl (Za rfl rfl (Zo (v := Vi (bP)) rfl rfl (Za rfl rfl (Zo (v := Value.bool (aJ)) rfl rfl (Zb (Ze (Zc (W_mid (M := fun f' w' => ∃ (cV : PHeap) , PHeap.le bI cV ∧ St w0 cV (Res.box i 63 [Value.string (b.Name), Vi (b.Cost), x, y, z, q, aa] :: Res.arr encGChange 81 aq ag :: Res.box bT 81 [ax, au, av, Vi (t.Atom), Value.bool (t.Add)] :: H) w' ∧ f' 1 = o ∧ f' 2 = Value.pointer (some ⟨i, 0, none⟩) ∧ f' 5 = aq ∧ f' 7 = Value.pointer (some ⟨bT, 0, none⟩) ∧ f' 23 = q ∧ f' 24 = Vi ((b.Changes.length : Int)) ∧ f' 25 = Vi ((b0 : Int)) ∧ f' 40 = Value.bool ((aJ && t.Add))) ?_ ?_)))))))))))))
  ·refine Zd (WL_passes 2 rfl ?_)
   by_cases az : aJ = true
   ·refine WL_run rfl (Zf rfl (Zx az)) rfl (Zp F81_2 rfl rfl rfl (WL_run rfl (Zf rfl (Zx az)) rfl (Zn (bv) A4 rfl rfl rfl (Za rfl rfl (Zs (v := Value.bool (t.Add)) rfl (Zx az) rfl (Zb (Ze ?_)))))))
    exact ⟨bI, (Zv _), ((bv).f2).f2, b4, cr, ct, rfl, b5, b6, bi, (Zx (and_t az)).symm⟩
   replace az := Zk az
   refine WL_passes 3 (by rw [az]; rfl) ?_
   refine Zb (Ze ?_)
   exact ⟨bI, (Zv _), ((bv).f2).f2, b4, cr, ct, rfl, b5, b6, bi, (Zx (and_f az)).symm⟩
  intro h0 i4 d6
  obtain ⟨bJ, aT, bw, cu, cv, cw, eN, cx, cy, cz, c0⟩ := d6
  refine (Ze ?_)
  obtain ⟨aD, a1, aw⟩ := Zg aw
  refine W_mid (M := fun f' w' => (fun (aD : (List GChange)) => ∃ (cW : PHeap) (bd : Value), PHeap.le bJ cW ∧ St w0 cW (Res.box i 63 [Value.string (b.Name), Vi (b.Cost), x, y, z, q, aa] :: Res.arr encGChange 81 bd aD :: H) w' ∧ f' 1 = o ∧ f' 2 = Value.pointer (some ⟨i, 0, none⟩) ∧ f' 5 = bd ∧ f' 23 = q ∧ f' 24 = Vi ((b.Changes.length : Int)) ∧ f' 25 = Vi ((b0 : Int))) aD) ?_ ?_
  ·rcases ite_some a1 with ⟨a8, a1⟩ | ⟨a8, a1⟩
   ·refine W_cond_t c0 a8 (Zd (Za rfl rfl (Zm (v := aq) rfl cw (Za rfl rfl (Exec.load_box_agg (ds := [ax, au, av, Vi (t.Atom), Value.bool (t.Add)]) ((bw).f2) A81 rfl eN rfl (Za rfl rfl (Exec.buildSlice (Te := 81) (cs := [ax, au, av, Vi (t.Atom), Value.bool (t.Add)]) bw rfl (parts_cons (c := [ax, au, av, Vi (t.Atom), Value.bool (t.Add)]) (cells_of rfl rfl) parts_nil) (fun _ => by kernel_rfl) ?_)))))))
    intro gV i5 dF
    obtain ⟨hJ, gp, a1⟩ := Zg a1
    refine Za rfl rfl (Exec.append_box (E := encGChange) (ys := [t]) (dF).f2 S60 Z81 rfl (by decide) rfl rfl rfl rfl ⟨[ax, au, av, Vi (t.Atom), Value.bool (t.Add)], [], rfl, ⟨[ax, au, av], [Vi (t.Atom), Value.bool (t.Add)], rfl, ⟨[ax], [au, av], rfl, ⟨_, rfl, (cM.mono (Zt aS aT))⟩, ⟨[au], [av], rfl, ⟨_, rfl, (cN.mono (Zt aS aT))⟩, ⟨_, rfl, (cO.mono (Zt aS aT))⟩⟩⟩, ⟨[Vi (t.Atom)], [Value.bool (t.Add)], rfl, rfl, rfl⟩⟩, rfl⟩ rfl gp ?_)
    intro di i6 dG
    refine Za rfl rfl (Zo (v := di) rfl rfl (Zb (Ze ?_)))
    have hf := Zu a1
    subst aD
    exact ⟨bJ, di, (Zv _), (((dG).f2).drop).f1, cu, cv, rfl, cx, cy, cz⟩
   refine W_cond_f c0 a8 ?_
   replace a8 := Zk a8
   refine W_skip (Ze ?_)
   have hg := Zu a1
   subst aD
   exact ⟨bJ, aq, (Zv _), ((((bw).f2).drop).f1).f1, cu, cv, cw, cx, cy, cz⟩
  intro h1 i7 d7
  obtain ⟨g6, bd, eE, dH, eO, eP, eQ, eR, eS, eT⟩ := d7
  refine (ib_normal (Ze (Zd (Za rfl rfl (Exec.add rfl eT rfl (Za rfl rfl (Zm (v := Vi (IntKind.i64.wrap ((b0 : Int) + 1))) rfl rfl (Zb (Ze ?_)))))))))
  have hh := Zu aw
  subst g5
  exact ⟨g6, bd, (Zt (Zt (Zt b2 aS) aT) eE), ((dH).f1).f1, eO, eP, eQ, eR, eS, (Eq.trans rfl (wrap_up ep (SliceRep.le a4)))⟩
 intro h2 i8 dx
 obtain ⟨cX, aq, d, bx, eU, eV, c1, hO, eW, gN⟩ := dx
 refine Zc (Zd (Za rfl rfl (Zq rfl gN eW (Zb (Ze (Zc (W_false (Zx (decide_eq_false (by omega))) (W_exit (at_exit (at_exit (ib_here (Ze (Zc (Zc (Zd (Za rfl rfl (Zm (v := aq) rfl c1 (Za rfl rfl (Exec.len_arr ((bx).f1) S60 rfl rfl (Za rfl rfl (Zm (v := Vi (0)) rfl rfl (Zb (Ze ?_)))))))))))))))))))))))
 obtain ⟨bU, dr, cn, eu, el⟩ := ctl_some hm
 refine W_mid (M := fun f' w' => ∃ s', (bU = .next s' ∨ bU = .brk s') ∧ (un2 fun (bS : (List GChange)) (dk : (List GChange)) => ∃ (ba : PHeap) (bM : Value) (bN : Value), PHeap.le cX ba ∧ St w0 ba (Res.box i 63 [Value.string (b.Name), Vi (b.Cost), x, y, z, q, aa] :: H) w' ∧ f' 1 = o ∧ f' 2 = Value.pointer (some ⟨i, 0, none⟩) ∧ f' 5 = bM ∧ f' 46 = bN ∧ f' 47 = Vi ((ag.length : Int)) ∧ SliceRep encGChange ba bM bS ∧ SliceRep encGChange ba bN dk) s') ?_ ?_
 ·refine W_block (W_forC (fun k' s' f' w' => (un2 fun (br : (List GChange)) (bR : (List GChange)) => ∃ (bb : PHeap) (af : Value) (ai : Value), PHeap.le cX bb ∧ St w0 bb (Res.box i 63 [Value.string (b.Name), Vi (b.Cost), x, y, z, q, aa] :: H) w' ∧ f' 1 = o ∧ f' 2 = Value.pointer (some ⟨i, 0, none⟩) ∧ f' 5 = af ∧ f' 46 = ai ∧ f' 47 = Vi ((ag.length : Int)) ∧ f' 48 = Vi (k' : Int) ∧ SliceRep encGChange bb af br ∧ SliceRep encGChange bb ai bR) s') dr ?_ ?_ ?_)
  ·have dI := (bx).f1
   obtain ⟨g7, eF, dJ, cP⟩ := dI.freezeArr
   exact ⟨g7, aq, aq, eF, dJ, eU, eV, c1, rfl, rfl, rfl, cP, cP⟩
  ·intro ao gI bs h3 i9 er dy al co
   obtain ⟨br, bR⟩ := gI
   replace al := un2_eq al
   obtain ⟨bK, af, ai, g, cd, eX, eY, c2, c3, c4, bj, aP, aQ⟩ := dy
   refine Zc (Zd (Za rfl rfl (Zq rfl bj c4 (Zb (Ze (Zc (W_true (Zx (decide_eq_true (by omega))) (W_skip (Ze (Zc (W_block (Zc (Zd (Za rfl rfl (Zm (v := Vi ((ao : Int))) rfl bj ?_)))))))))))))))
   obtain ⟨a, gq, al⟩ := Zg al
   refine Za rfl rfl (Exec.index_rep S60 rfl c3 bj aQ gq ?_)
   intro gW hL dm
   refine Za rfl rfl (Zw (E := encGChange) cd A81 rfl rfl rfl dm ?_)
   intro iv gr
   obtain ⟨p, j, l, rfl, bF, bG, bH⟩ := encGChange_val.1 gr
   refine Za rfl rfl (Exec.alloc (cs := [Value.slice none 0 0, Value.slice none 0 0, Value.slice none 0 0, Vi (0), Value.bool (false)]) cd Z81 rfl rfl ?_)
   intro ac iA dK
   refine Za rfl rfl (Zo (v := Vi ((ao : Int))) rfl rfl (Za rfl rfl (Exec.store_box (ds := [p, j, l, Vi (a.Atom), Value.bool (a.Add)]) (es := [p, j, l, Vi (a.Atom), Value.bool (a.Add)]) dK A81 rfl rfl rfl rfl (Zj (bF).one (Zj (bG).one (Zj (bH).one (Zj rfl (Zj rfl one_nil))))) (Nat.le_of_ble_eq_true rfl) rfl ?_)))
   intro iB dL
   refine Zb (Ze (Zc (Zc (Zd (Za rfl rfl (Zm (v := af) rfl c2 (Za rfl rfl (Zm (v := Vi ((ao : Int))) rfl rfl ?_))))))))
   obtain ⟨aM, gs, al⟩ := Zg al
   refine Za rfl rfl (Exec.slice_to S60 rfl rfl rfl aP gs ?_)
   intro be aZ
   refine Za rfl rfl (Zr S60 rfl rfl aZ (Za rfl rfl (Zm (v := Vi (0)) rfl rfl (Zb (Ze ?_)))))
   obtain ⟨bV, dt, e3, ev, em⟩ := ctl_some al
   refine W_mid (M := fun f' w' => ∃ s', (bV = .next s' ∨ bV = .brk s') ∧ (fun (_ : Unit) => ∃ (cY : PHeap) , PHeap.le bK cY ∧ St w0 cY (Res.box i 63 [Value.string (b.Name), Vi (b.Cost), x, y, z, q, aa] :: Res.box ac 81 [p, j, l, Vi (a.Atom), Value.bool (a.Add)] :: H) w' ∧ f' 1 = o ∧ f' 2 = Value.pointer (some ⟨i, 0, none⟩) ∧ f' 5 = af ∧ f' 11 = Value.pointer (some ⟨ac, 0, none⟩) ∧ f' 46 = ai ∧ f' 47 = Vi ((ag.length : Int)) ∧ f' 48 = Vi ((ao : Int)) ∧ f' 55 = be ∧ f' 56 = Vi ((aM.length : Int))) s') ?_ ?_
   ·refine W_block (W_forC (fun k' s' f' w' => (fun (_ : Unit) => ∃ (cZ : PHeap) , PHeap.le bK cZ ∧ St w0 cZ (Res.box i 63 [Value.string (b.Name), Vi (b.Cost), x, y, z, q, aa] :: Res.box ac 81 [p, j, l, Vi (a.Atom), Value.bool (a.Add)] :: H) w' ∧ f' 1 = o ∧ f' 2 = Value.pointer (some ⟨i, 0, none⟩) ∧ f' 5 = af ∧ f' 11 = Value.pointer (some ⟨ac, 0, none⟩) ∧ f' 46 = ai ∧ f' 47 = Vi ((ag.length : Int)) ∧ f' 48 = Vi ((ao : Int)) ∧ f' 55 = be ∧ f' 56 = Vi ((aM.length : Int)) ∧ f' 57 = Vi (k' : Int)) s') dt ?_ ?_ ?_)
    ·have dM := (dL).f1
     exact ⟨bK, (Zv _), dM, eX, eY, c2, rfl, c3, c4, bj, rfl, rfl, rfl⟩
    ·intro aR ij bt h4 iC cl dz am e6
     obtain ⟨bc, ad, ce, b7, c5, c6, b8, c7, c8, c9, b9, bA, bk⟩ := dz
     refine Zc (Zd (Za rfl rfl (Zq rfl bk bA (Zb (Ze (Zc (W_true (Zx (decide_eq_true (by omega))) (W_skip (Ze (Zc (W_block (Zc (Zd ?_)))))))))))))
     obtain ⟨m, gu, am⟩ := Zg am
     refine Za rfl rfl (Exec.index_rep S60 rfl b9 bk (aZ.mono ad) gu ?_)
     intro gX hM dn
     refine Za rfl rfl (Zw (E := encGChange) ce A81 rfl rfl rfl dn ?_)
     intro iw gv
     obtain ⟨ap, aj, ak, rfl, cQ, cR, cS⟩ := encGChange_val.1 gv
     refine Za rfl rfl (Exec.alloc (cs := [Value.slice none 0 0, Value.slice none 0 0, Value.slice none 0 0, Vi (0), Value.bool (false)]) ce Z81 rfl rfl ?_)
     intro aL iD dN
     refine Za rfl rfl (Exec.store_box (ds := [ap, aj, ak, Vi (m.Atom), Value.bool (m.Add)]) (es := [ap, aj, ak, Vi (m.Atom), Value.bool (m.Add)]) dN A81 rfl rfl rfl rfl (Zj (cQ).one (Zj (cR).one (Zj (cS).one (Zj rfl (Zj rfl one_nil))))) (Nat.le_of_ble_eq_true rfl) rfl ?_)
     intro iE aN
     refine Zb (Ze (Zc (Zc (Zd (Za rfl rfl (Zp F81_1 rfl b8 rfl (Za rfl rfl (Zn ((aN).f2) A3 rfl rfl rfl (Za rfl rfl (Zp F81_1 rfl rfl rfl (Za rfl rfl (Zn (aN) A3 rfl rfl rfl (Za rfl rfl (Exec.eql rfl rfl rfl (Zb (Ze ?_))))))))))))))))
     rcases ite_some am with ⟨a9, am⟩ | ⟨a9, am⟩
     ·refine W_cond_t rfl a9 (W_exit (at_exit (ib_here (Ze (Zd (Za rfl rfl (Exec.add rfl bk rfl (Za rfl rfl (Zm (v := Vi (IntKind.i64.wrap ((aR : Int) + 1))) rfl rfl (Zb (Ze ?_)))))))))))
      have hi := Zu am
      subst bt
      refine ⟨_, rfl, ?_⟩; exact ⟨bc, ad, (((aN).drop).f1).f1, b7, c5, c6, b8, c7, c8, c9, b9, bA, (Eq.trans rfl (wrap_up cl (SliceRep.le aZ)))⟩
     refine W_cond_f rfl a9 ?_
     replace a9 := Zk a9
     refine W_skip (Ze (Zc (Zd (Za rfl rfl (Exec.buildSlice (Te := 3) (cs := [Vi ((-1))]) aN rfl (parts_cons (c := [Vi ((-1))]) (cells_of rfl rfl) parts_nil) (fun _ => by kernel_rfl) ?_)))))
     intro gY iF dO
     refine Za rfl rfl (Zm (v := o) rfl b7 ?_)
     have dP := St.boxArr (E := (encInt .i64)) (xs := [(-1)]) dO ⟨[Vi ((-1))], [], rfl, rfl, rfl⟩ (by simp [maxLen])
     obtain ⟨aU, gw, am⟩ := Zg am
     refine Za rfl rfl (Exec.append_rep (E := (encInt .i64)) (ys := a5) dP S24 Z3 rfl (by decide) rfl rfl rfl (ay.mono (Zt (Zt d g) ad)) gw ?_)
     intro bf iG bz
     refine Za rfl rfl (Exec.len_arr (bz) S24 rfl rfl (Za rfl rfl (Zm (v := Vi (0)) rfl rfl (Zb (Ze ?_)))))
     obtain ⟨bW, du, e4, ew, en⟩ := ctl_some am
     refine W_mid (M := fun f' w' => ∃ s', (bW = .next s' ∨ bW = .brk s') ∧ (fun (_ : Unit) => ∃ (da : PHeap) , PHeap.le bc da ∧ St w0 da (Res.box i 63 [Value.string (b.Name), Vi (b.Cost), x, y, z, q, aa] :: Res.box ac 81 [p, j, l, Vi (a.Atom), Value.bool (a.Add)] :: Res.box aL 81 [ap, aj, ak, Vi (m.Atom), Value.bool (m.Add)] :: Res.arr (encInt .i64) 3 bf aU :: H) w' ∧ f' 1 = o ∧ f' 2 = Value.pointer (some ⟨i, 0, none⟩) ∧ f' 5 = af ∧ f' 11 = Value.pointer (some ⟨ac, 0, none⟩) ∧ f' 13 = Value.pointer (some ⟨aL, 0, none⟩) ∧ f' 46 = ai ∧ f' 47 = Vi ((ag.length : Int)) ∧ f' 48 = Vi ((ao : Int)) ∧ f' 55 = be ∧ f' 56 = Vi ((aM.length : Int)) ∧ f' 57 = Vi ((aR : Int)) ∧ f' 68 = bf ∧ f' 69 = Vi ((aU.length : Int))) s') ?_ ?_
     ·refine W_block (W_forC (fun k' s' f' w' => (fun (_ : Unit) => ∃ (db : PHeap) , PHeap.le bc db ∧ St w0 db (Res.box i 63 [Value.string (b.Name), Vi (b.Cost), x, y, z, q, aa] :: Res.box ac 81 [p, j, l, Vi (a.Atom), Value.bool (a.Add)] :: Res.box aL 81 [ap, aj, ak, Vi (m.Atom), Value.bool (m.Add)] :: Res.arr (encInt .i64) 3 bf aU :: H) w' ∧ f' 1 = o ∧ f' 2 = Value.pointer (some ⟨i, 0, none⟩) ∧ f' 5 = af ∧ f' 11 = Value.pointer (some ⟨ac, 0, none⟩) ∧ f' 13 = Value.pointer (some ⟨aL, 0, none⟩) ∧ f' 46 = ai ∧ f' 47 = Vi ((ag.length : Int)) ∧ f' 48 = Vi ((ao : Int)) ∧ f' 55 = be ∧ f' 56 = Vi ((aM.length : Int)) ∧ f' 57 = Vi ((aR : Int)) ∧ f' 68 = bf ∧ f' 69 = Vi ((aU.length : Int)) ∧ f' 70 = Vi (k' : Int)) s') du ?_ ?_ ?_)
      ·have dQ := (bz).f1
       exact ⟨bc, (Zv _), ((dQ).f3).f3, b7, c5, c6, b8, rfl, c7, c8, c9, b9, bA, bk, rfl, rfl, rfl⟩
      ·intro eD ik bX h5 iH et d0 an e7
       obtain ⟨ig, ae, a6, cA, cB, eZ, cC, cD, fa, fb, fc, fd, fe, ff, cE, cF, bO⟩ := d0
       refine Zc (Zd (Za rfl rfl (Zq rfl bO cF (Zb (Ze (Zc (W_true (Zx (decide_eq_true (by omega))) (W_skip (Ze (Zc (W_block (Zc (Zd ?_)))))))))))))
       obtain ⟨dj, aY, an⟩ := Zg an
       obtain ⟨hG, he, bZ⟩ := ((a6).f3).arr_at aY
       refine Za rfl rfl (Exec.index_slice S24 rfl (Eq.trans cE bZ) bO (idx_some aY).1 (idx_some aY).2.1 (Za rfl rfl (Exec.load_arr (F := (encInt .i64)) ((a6).f3) bZ A3 rfl rfl rfl aY (Sub.refl _) ?_)))
       intro ix gx
       obtain rfl := encInt_val.1 gx
       refine Za rfl rfl (Zo (v := Vi (dj)) rfl rfl (Zb (Ze (Zc (Zd (Za rfl rfl (Exec.load_box_agg (ds := [Value.string (b.Name), Vi (b.Cost), x, y, z, q, aa]) (a6) A63 rfl cB rfl (Za rfl rfl (Exec.load_box_agg (ds := [p, j, l, Vi (a.Atom), Value.bool (a.Add)]) ((a6).f1) A81 rfl cC rfl (Za rfl rfl (Exec.load_box_agg (ds := [ap, aj, ak, Vi (m.Atom), Value.bool (m.Add)]) ((a6).f2) A81 rfl cD rfl (Za rfl rfl (Exec.buildSlice (Te := 81) (cs := [p, j, l, Vi (a.Atom), Value.bool (a.Add), ap, aj, ak, Vi (m.Atom), Value.bool (m.Add)]) a6 rfl (parts_cons (c := [p, j, l, Vi (a.Atom), Value.bool (a.Add)]) (cells_of rfl rfl) (parts_cons (c := [ap, aj, ak, Vi (m.Atom), Value.bool (m.Add)]) (cells_of rfl rfl) parts_nil)) (fun _ => by kernel_rfl) ?_)))))))))))))
       intro gZ iI dR
       refine Za rfl rfl (Zm (v := Vi (dj)) rfl rfl (Za rfl rfl (Zm (v := o) rfl cA ?_)))
       have dS := St.boxArr (E := encGChange) (xs := [a, m]) dR ⟨[p, j, l, Vi (a.Atom), Value.bool (a.Add)], [ap, aj, ak, Vi (m.Atom), Value.bool (m.Add)], rfl, ⟨[p, j, l], [Vi (a.Atom), Value.bool (a.Add)], rfl, ⟨[p], [j, l], rfl, ⟨_, rfl, (bF.mono (Zt ad ae))⟩, ⟨[j], [l], rfl, ⟨_, rfl, (bG.mono (Zt ad ae))⟩, ⟨_, rfl, (bH.mono (Zt ad ae))⟩⟩⟩, ⟨[Vi (a.Atom)], [Value.bool (a.Add)], rfl, rfl, rfl⟩⟩, ⟨[ap, aj, ak, Vi (m.Atom), Value.bool (m.Add)], [], rfl, ⟨[ap, aj, ak], [Vi (m.Atom), Value.bool (m.Add)], rfl, ⟨[ap], [aj, ak], rfl, ⟨_, rfl, (cQ.mono ae)⟩, ⟨[aj], [ak], rfl, ⟨_, rfl, (cR.mono ae)⟩, ⟨_, rfl, (cS.mono ae)⟩⟩⟩, ⟨[Vi (m.Atom)], [Value.bool (m.Add)], rfl, rfl, rfl⟩⟩, rfl⟩⟩ (by simp [maxLen])
       obtain ⟨ih, a0, dT, g3⟩ := dS.freezeArr
       obtain ⟨gJ, gy, an⟩ := Zg an
       obtain ⟨bm, jb⟩ := gJ
       replace an := un2_eq an
       refine Za rfl rfl (Tc rfl rfl rfl (Zi rfl (Zi rfl (Zi rfl (Zi rfl args_nil)))) (invariant_situation_sim gy dT (bn.mono (Zt (Zt (Zt (Zt d g) ad) ae) a0)) (bo.mono (Zt (Zt (Zt (Zt d g) ad) ae) a0)) (bp.mono (Zt (Zt (Zt (Zt d g) ad) ae) a0)) (a4.mono (Zt (Zt (Zt (Zt d g) ad) ae) a0)) (bq.mono (Zt (Zt (Zt (Zt d g) ad) ae) a0)) g3 (ay.mono (Zt (Zt (Zt (Zt d g) ad) ae) a0))).r ?_)
       rintro _ iJ ⟨dc, bg, bh, cp, dU, rfl⟩
       refine Za rfl rfl (Zm (v := Value.tuple #[Value.agg #[Value.map (some bg), Value.map (some bh)], Value.bool (bm)]) rfl rfl (Za rfl rfl (Exec.extract (v := Value.agg #[Value.map (some bg), Value.map (some bh)]) rfl rfl rfl (Za rfl rfl (Exec.extract (v := Value.bool (bm)) rfl rfl rfl (Za rfl rfl (Exec.alloc (cs := [Value.map none, Value.map none]) dU Z121 rfl rfl ?_)))))))
       intro ha iK dV
       refine Za rfl rfl (Exec.store_box (ds := [Value.map (some bg), Value.map (some bh)]) (es := [Value.map (some bg), Value.map (some bh)]) dV A121 rfl rfl rfl rfl (Zj rfl (Zj rfl one_nil)) (Nat.le_of_ble_eq_true rfl) rfl ?_)
       intro iL cf
       refine Za rfl rfl (Zo (v := Value.bool (bm)) rfl rfl (Zb (Ze (Zc (Zd (Za rfl rfl (Zm (v := Value.bool (bm)) rfl rfl (Zb (Ze ?_)))))))))
       rcases ite_some an with ⟨aA, an⟩ | ⟨aA, an⟩
       ·refine W_cond_t rfl aA (Zc (Zd (Za rfl rfl (Zo (v := Value.bool (false)) rfl rfl (Zb (Ze (W_ret (ib_ret (at_ret (at_ret (ib_ret (at_ret (ib_ret (at_ret (at_ret (ib_ret (at_ret (at_ret (ib_ret (at_ret (at_ret (ib_ret (at_ret (at_ret ?_))))))))))))))))))))))))
        have hj := Zu an
        subst bX
        have ey := e4 _ (e7 (by intro _ h; cases h))
        have hk := Zu ey
        subst bt
        have ez := e3 _ (e6 (by intro _ h; cases h))
        have hl := Zu ez
        subst bs
        have e0 := cn _ (co (by intro _ h; cases h))
        have hn := Zu e0
        subst r
        refine ⟨_, ret1 rfl, ?_⟩
        exact ⟨dc, (Zt (Zt (Zt (Zt (Zt d g) ad) ae) a0) cp), (((((((cf).drop).drop).drop).drop).drop).drop).drop, rfl⟩
       refine W_cond_f rfl aA ?_
       replace aA := Zk aA
       refine W_skip (ib_normal (Ze (Zd (Za rfl rfl (Exec.add rfl bO rfl (Za rfl rfl (Zm (v := Vi (IntKind.i64.wrap ((eD : Int) + 1))) rfl rfl (Zb (Ze ?_)))))))))
       have ho := Zu an
       subst bX
       refine ⟨_, rfl, ?_⟩; exact ⟨dc, (Zt (Zt ae a0) cp), (((((((cf).drop).drop).drop).f3).f3).f3).f3, cA, cB, eZ, cC, cD, fa, fb, fc, fd, fe, ff, cE, cF, (Eq.trans rfl (wrap_up et (bz).arr_le))⟩
      intro il h6 iM d1 e8
      obtain ⟨g8, eG, dW, fg, fh, fi, fj, fk, fl, fm, fn, fo, fp, fq, fr, cG, gO⟩ := d1
      refine Zc (Zd (Za rfl rfl (Zq rfl gO cG (Zb (Ze (Zc (W_false (Zx (decide_eq_false (by omega))) (W_exit (at_exit (at_exit (ib_here (Ze ?_))))))))))))
      refine ⟨_, .inl e8, ?_⟩; exact ⟨g8, eG, ((((dW).f3).f3).f3).f3, fg, fh, fi, fj, fk, fl, fm, fn, fo, fp, fq, fr, cG⟩
     rintro h7 iN ⟨im, ch, d8⟩
     have am := ch.elim (ew _) (en _)
     clear ch
     obtain ⟨g9, eH, dX, fs, ft, fu, fv, hP, fw, fx, fy, fz, f0, f4, hQ, hR⟩ := d8
     refine (ib_normal (Ze (Zd (Za rfl rfl (Exec.add rfl f4 rfl (Za rfl rfl (Zm (v := Vi (IntKind.i64.wrap ((aR : Int) + 1))) rfl rfl (Zb (Ze ?_)))))))))
     have hp := Zu am
     subst bt
     refine ⟨_, rfl, ?_⟩; exact ⟨g9, (Zt ad eH), ((((((dX).f2).drop).f2).drop).f1).f1, fs, ft, fu, fv, fw, fx, fy, fz, f0, (Eq.trans rfl (wrap_up cl (SliceRep.le aZ)))⟩
    intro io h8 iO d2 e9
    obtain ⟨gA, eI, dY, f5, f6, f7, f8, f9, fA, fB, fC, cH, gP⟩ := d2
    refine Zc (Zd (Za rfl rfl (Zq rfl gP cH (Zb (Ze (Zc (W_false (Zx (decide_eq_false (by omega))) (W_exit (at_exit (at_exit (ib_here (Ze ?_))))))))))))
    refine ⟨_, .inl e9, ?_⟩; exact ⟨gA, eI, ((dY).f1).f1, f5, f6, f7, f8, f9, fA, fB, fC, cH⟩
   rintro h9 iP ⟨ip, ci, d9⟩
   have al := ci.elim (ev _) (em _)
   clear ci
   obtain ⟨bL, n, dZ, cI, fD, fE, fF, fG, fH, fI, hT, hU⟩ := d9
   refine (Ze (Zc (Zd (Za rfl rfl (Zm (v := o) rfl cI (Za rfl rfl (Zr S24 rfl rfl (ay.mono (Zt (Zt d g) n)) (Za rfl rfl (Zm (v := Vi (0)) rfl rfl (Zb (Ze ?_)))))))))))
   obtain ⟨bY, dv, e5, ex, eo⟩ := ctl_some al
   refine W_mid (M := fun f' w' => ∃ s', (bY = .next s' ∨ bY = .brk s') ∧ (fun (_ : Unit) => ∃ (dd : PHeap) , PHeap.le bL dd ∧ St w0 dd (Res.box i 63 [Value.string (b.Name), Vi (b.Cost), x, y, z, q, aa] :: Res.box ac 81 [p, j, l, Vi (a.Atom), Value.bool (a.Add)] :: H) w' ∧ f' 1 = o ∧ f' 2 = Value.pointer (some ⟨i, 0, none⟩) ∧ f' 5 = af ∧ f' 11 = Value.pointer (some ⟨ac, 0, none⟩) ∧ f' 46 = ai ∧ f' 47 = Vi ((ag.length : Int)) ∧ f' 48 = Vi ((ao : Int)) ∧ f' 87 = o ∧ f' 88 = Vi ((a5.length : Int))) s') ?_ ?_
   ·refine W_block (W_forC (fun k' s' f' w' => (fun (_ : Unit) => ∃ (de : PHeap) , PHeap.le bL de ∧ St w0 de (Res.box i 63 [Value.string (b.Name), Vi (b.Cost), x, y, z, q, aa] :: Res.box ac 81 [p, j, l, Vi (a.Atom), Value.bool (a.Add)] :: H) w' ∧ f' 1 = o ∧ f' 2 = Value.pointer (some ⟨i, 0, none⟩) ∧ f' 5 = af ∧ f' 11 = Value.pointer (some ⟨ac, 0, none⟩) ∧ f' 46 = ai ∧ f' 47 = Vi ((ag.length : Int)) ∧ f' 48 = Vi ((ao : Int)) ∧ f' 87 = o ∧ f' 88 = Vi ((a5.length : Int)) ∧ f' 89 = Vi (k' : Int)) s') dv ?_ ?_ ?_)
    ·have ea := (dZ).f1
     exact ⟨bL, (Zv _), (ea).f1, cI, fD, fE, fF, fG, fH, fI, rfl, rfl, rfl⟩
    ·intro b1 iq bu hA iQ cm d3 ab eA
     obtain ⟨gB, u, a7, aV, aE, bB, aF, bC, bD, bE, aW, aX, aI⟩ := d3
     refine Zc (Zd (Za rfl rfl (Zq rfl aI aX (Zb (Ze (Zc (W_true (Zx (decide_eq_true (by omega))) (W_skip (Ze (Zc (W_block (Zc (Zd ?_)))))))))))))
     obtain ⟨bl, gz, ab⟩ := Zg ab
     refine Za rfl rfl (Exec.index_rep S24 rfl aW aI (ay.mono (Zt (Zt (Zt d g) n) u)) gz ?_)
     intro hb hN dp
     refine Za rfl rfl (Zw (E := (encInt .i64)) a7 A3 rfl rfl rfl dp ?_)
     intro iy g0
     obtain rfl := encInt_val.1 g0
     refine Za rfl rfl (Zo (v := Vi (bl)) rfl rfl (Zb (Ze (Zc (Zc (Zd (Za rfl rfl (Zm (v := Vi (bl)) rfl rfl (Za rfl rfl (Zp F81_1 rfl aF rfl (Za rfl rfl (Zn ((a7).f1) A3 rfl rfl rfl (Za rfl rfl (Exec.eql rfl rfl rfl (Zb (Ze ?_))))))))))))))))
     rcases ite_some ab with ⟨aB, ab⟩ | ⟨aB, ab⟩
     ·refine W_cond_t rfl aB (W_exit (at_exit (ib_here (Ze (Zd (Za rfl rfl (Exec.add rfl aI rfl (Za rfl rfl (Zm (v := Vi (IntKind.i64.wrap ((b1 : Int) + 1))) rfl rfl (Zb (Ze ?_)))))))))))
      have hq := Zu ab
      subst bu
      refine ⟨_, rfl, ?_⟩; exact ⟨gB, u, ((a7).f1).f1, aV, aE, bB, aF, bC, bD, bE, aW, aX, (Eq.trans rfl (wrap_up cm (SliceRep.le (ay.mono (Zt (Zt d g) n)))))⟩
     refine W_cond_f rfl aB ?_
     replace aB := Zk aB
     refine W_skip (Ze (Zc (Zd (Za rfl rfl (Exec.load_box_agg (ds := [Value.string (b.Name), Vi (b.Cost), x, y, z, q, aa]) (a7) A63 rfl aE rfl (Za rfl rfl (Exec.load_box_agg (ds := [p, j, l, Vi (a.Atom), Value.bool (a.Add)]) ((a7).f1) A81 rfl aF rfl (Za rfl rfl (Exec.buildSlice (Te := 81) (cs := [p, j, l, Vi (a.Atom), Value.bool (a.Add)]) a7 rfl (parts_cons (c := [p, j, l, Vi (a.Atom), Value.bool (a.Add)]) (cells_of rfl rfl) parts_nil) (fun _ => by kernel_rfl) ?_)))))))))
     intro hc iR eb
     refine Za rfl rfl (Zm (v := Vi (bl)) rfl rfl (Za rfl rfl (Zm (v := o) rfl aV ?_)))
     have ec := St.boxArr (E := encGChange) (xs := [a]) eb ⟨[p, j, l, Vi (a.Atom), Value.bool (a.Add)], [], rfl, ⟨[p, j, l], [Vi (a.Atom), Value.bool (a.Add)], rfl, ⟨[p], [j, l], rfl, ⟨_, rfl, (bF.mono (Zt n u))⟩, ⟨[j], [l], rfl, ⟨_, rfl, (bG.mono (Zt n u))⟩, ⟨_, rfl, (bH.mono (Zt n u))⟩⟩⟩, ⟨[Vi (a.Atom)], [Value.bool (a.Add)], rfl, rfl, rfl⟩⟩, rfl⟩ (by simp [maxLen])
     obtain ⟨ii, ah, ed, g4⟩ := ec.freezeArr
     obtain ⟨gK, g1, ab⟩ := Zg ab
     obtain ⟨bQ, jc⟩ := gK
     replace ab := un2_eq ab
     refine Za rfl rfl (Tc rfl rfl rfl (Zi rfl (Zi rfl (Zi rfl (Zi rfl args_nil)))) (invariant_situation_sim g1 ed (bn.mono (Zt (Zt (Zt (Zt d g) n) u) ah)) (bo.mono (Zt (Zt (Zt (Zt d g) n) u) ah)) (bp.mono (Zt (Zt (Zt (Zt d g) n) u) ah)) (a4.mono (Zt (Zt (Zt (Zt d g) n) u) ah)) (bq.mono (Zt (Zt (Zt (Zt d g) n) u) ah)) g4 (ay.mono (Zt (Zt (Zt (Zt d g) n) u) ah))).r ?_)
     rintro _ iS ⟨df, aG, aH, a3, ee, rfl⟩
     refine Za rfl rfl (Zm (v := Value.tuple #[Value.agg #[Value.map (some aG), Value.map (some aH)], Value.bool (bQ)]) rfl rfl (Za rfl rfl (Exec.extract (v := Value.agg #[Value.map (some aG), Value.map (some aH)]) rfl rfl rfl (Za rfl rfl (Exec.extract (v := Value.bool (bQ)) rfl rfl rfl (Za rfl rfl (Exec.alloc (cs := [Value.map none, Value.map none]) ee Z121 rfl rfl ?_)))))))
     intro hd iT ef
     refine Za rfl rfl (Exec.store_box (ds := [Value.map (some aG), Value.map (some aH)]) (es := [Value.map (some aG), Value.map (some aH)]) ef A121 rfl rfl rfl rfl (Zj rfl (Zj rfl one_nil)) (Nat.le_of_ble_eq_true rfl) rfl ?_)
     intro iU aO
     refine Za rfl rfl (Zo (v := Value.bool (bQ)) rfl rfl (Zb (Ze (Zc ?_))))
     obtain ⟨aK, a2, ab⟩ := Zg ab
     refine W_mid (M := fun f' w' => (fun (aK : Bool) => ∃ (dg : PHeap) , PHeap.le df dg ∧ St w0 dg (Res.box i 63 [Value.string (b.Name), Vi (b.Cost), x, y, z, q, aa] :: Res.box ac 81 [p, j, l, Vi (a.Atom), Value.bool (a.Add)] :: H) w' ∧ f' 1 = o ∧ f' 2 = Value.pointer (some ⟨i, 0, none⟩) ∧ f' 5 = af ∧ f' 11 = Value.pointer (some ⟨ac, 0, none⟩) ∧ f' 46 = ai ∧ f' 47 = Vi ((ag.length : Int)) ∧ f' 48 = Vi ((ao : Int)) ∧ f' 87 = o ∧ f' 88 = Vi ((a5.length : Int)) ∧ f' 89 = Vi ((b1 : Int)) ∧ f' 113 = Value.bool (aK)) aK) ?_ ?_
     ·refine Zd (WL_passes 2 rfl ?_)
      rcases ite_some a2 with ⟨ar, a2⟩ | ⟨ar, a2⟩
      ·refine WL_run rfl (Zf rfl (Zx ar)) rfl (Exec.load_box_agg (ds := [Value.map (some aG), Value.map (some aH)]) (aO) A121 rfl rfl rfl (WL_run rfl (Zf rfl (Zx ar)) rfl (Exec.load_box_agg (ds := [Value.string (b.Name), Vi (b.Cost), x, y, z, q, aa]) ((aO).f3) A63 rfl aE rfl (WL_run rfl (Zf rfl (Zx ar)) rfl (Zm (v := Vi (bl)) rfl rfl ?_)))))
       obtain ⟨gT, g2, a2⟩ := Zg a2
       refine WL_run rfl (Zf rfl (Zx ar)) rfl (Tc rfl rfl rfl (Zi rfl (Zi rfl (Zi rfl args_nil))) (invariant_literals_deletes_o_sim g2 ((aO).f2).f2 (bn.mono (Zt (Zt (Zt (Zt (Zt d g) n) u) ah) a3)) (bo.mono (Zt (Zt (Zt (Zt (Zt d g) n) u) ah) a3)) (bp.mono (Zt (Zt (Zt (Zt (Zt d g) n) u) ah) a3)) (a4.mono (Zt (Zt (Zt (Zt (Zt d g) n) u) ah) a3)) (bq.mono (Zt (Zt (Zt (Zt (Zt d g) n) u) ah) a3))).r ?_)
       rintro _ iV ⟨gC, eJ, eg, rfl⟩
       refine WL_run rfl (Zf rfl (Zx ar)) rfl (Exec.not rfl rfl (Za rfl rfl (Zs (v := Value.bool (!gT)) rfl (Zx ar) rfl (Zb (Ze ?_)))))
       have hr := Zu a2
       subst aK
       exact ⟨gC, eJ, (((((eg).drop).drop).drop).f1).f1, aV, aE, bB, aF, bC, bD, bE, aW, aX, aI, rfl⟩
      replace ar := Zk ar
      refine WL_passes 6 (by rw [ar]; rfl) ?_
      refine Zb (Ze ?_)
      have hs := Zu a2
      subst aK
      exact ⟨df, (Zv _), (((((aO).drop).drop).drop).f1).f1, aV, aE, bB, aF, bC, bD, bE, aW, aX, aI, rfl⟩
     intro hB iW dA
     obtain ⟨dh, cq, cg, fJ, fK, fL, fM, fN, fO, fP, fQ, fR, fS, cJ⟩ := dA
     refine (Ze ?_)
     rcases ite_some ab with ⟨aC, ab⟩ | ⟨aC, ab⟩
     ·refine W_cond_t cJ aC (Zc (Zd (Za rfl rfl (Zo (v := Value.bool (false)) rfl rfl (Zb (Ze (W_ret (ib_ret (at_ret (at_ret (ib_ret (at_ret (ib_ret (at_ret (at_ret (ib_ret (at_ret (at_ret ?_))))))))))))))))))
      have ht := Zu ab
      subst bu
      have e1 := e5 _ (eA (by intro _ h; cases h))
      have hu := Zu e1
      subst bs
      have e2 := cn _ (co (by intro _ h; cases h))
      have hv := Zu e2
      subst r
      refine ⟨_, ret1 rfl, ?_⟩
      exact ⟨dh, (Zt (Zt (Zt (Zt (Zt (Zt d g) n) u) ah) a3) cq), ((cg).drop).drop, rfl⟩
     refine W_cond_f cJ aC ?_
     replace aC := Zk aC
     refine W_skip (ib_normal (Ze (Zd (Za rfl rfl (Exec.add rfl fS rfl (Za rfl rfl (Zm (v := Vi (IntKind.i64.wrap ((b1 : Int) + 1))) rfl rfl (Zb (Ze ?_)))))))))
     have hw := Zu ab
     subst bu
     refine ⟨_, rfl, ?_⟩; exact ⟨dh, (Zt (Zt (Zt u ah) a3) cq), ((cg).f1).f1, fJ, fK, fL, fM, fN, fO, fP, fQ, fR, (Eq.trans rfl (wrap_up cm (SliceRep.le (ay.mono (Zt (Zt d g) n)))))⟩
    intro ir hC iX d4 eB
    obtain ⟨gD, eK, eh, fT, fU, fV, fW, fX, fY, fZ, ga, cK, gQ⟩ := d4
    refine Zc (Zd (Za rfl rfl (Zq rfl gQ cK (Zb (Ze (Zc (W_false (Zx (decide_eq_false (by omega))) (W_exit (at_exit (at_exit (ib_here (Ze ?_))))))))))))
    refine ⟨_, .inl eB, ?_⟩; exact ⟨gD, eK, ((eh).f1).f1, fT, fU, fV, fW, fX, fY, fZ, ga, cK⟩
   rintro hD iY ⟨it, cj, dB⟩
   have al := cj.elim (ex _) (eo _)
   clear cj
   obtain ⟨gE, b3, ei, gb, gc, gd, hV, gf, gg, gh, hW, hX⟩ := dB
   refine (ib_normal (Ze (Zd (Za rfl rfl (Exec.add rfl gh rfl (Za rfl rfl (Zm (v := Vi (IntKind.i64.wrap ((ao : Int) + 1))) rfl rfl (Zb (Ze ?_)))))))))
   have hx := Zu al
   subst bs
   refine ⟨_, rfl, ?_⟩; exact ⟨gE, af, ai, (Zt (Zt g n) b3), ((ei).f1).drop, gb, gc, gd, gf, gg, (Eq.trans rfl (wrap_up er ((bx).f1).arr_le)), (aP.mono (Zt n b3)), (aQ.mono (Zt n b3))⟩
  intro gL hE iZ d5 eC
  obtain ⟨br, bR⟩ := gL
  obtain ⟨gF, af, ai, eL, ej, gi, gj, gk, gl, cL, gR, aP, aQ⟩ := d5
  refine Zc (Zd (Za rfl rfl (Zq rfl gR cL (Zb (Ze (Zc (W_false (Zx (decide_eq_false (by omega))) (W_exit (at_exit (at_exit (ib_here (Ze ?_))))))))))))
  refine ⟨_, .inl eC, ?_⟩; exact ⟨gF, af, ai, eL, ej, gi, gj, gk, gl, cL, aP, aQ⟩
 rintro hF ja ⟨gM, ck, dC⟩
 have hm := ck.elim (eu _) (el _)
 clear ck
 obtain ⟨bS, dk⟩ := gM
 replace hm := un2_eq hm
 obtain ⟨gG, bM, bN, eM, ek, hY, hZ, ia, ib, ic, hH, hI⟩ := dC
 refine (Ze (Zc (Zd (Za rfl rfl (Zo (v := Value.bool (true)) rfl rfl (Zb (Ze (W_ret ?_))))))))
 have hy := Zu hm
 subst r
 refine ⟨_, ret1 rfl, ?_⟩
 exact ⟨gG, (Zt d eM), (ek).drop, rfl⟩
theorem invariant_balanced_sim {w0 w : World} {s : PHeap} {H : List Res} {n : Ground} {ag : (List Int)} {ac : Value} {ad : Value} {o : Value} {ae : Value} {p : Value} {b : Value} {r : Bool} (hm : invariant_balanced_p n ag = some r) (hS : St w0 s (H) w) (bc : SliceRep encAtom s ac n.Atoms) (cc : SliceRep encGFluent s ad n.Fluents) (a2 : SliceRep (encInt .i64) s o n.Init) (cd : SliceRep encCond s ae n.Goal) (au : SliceRep encGOp s p n.Ops) (aa : SliceRep (encInt .i64) s b ag) :
  Calls Tryz.prog 23 #[Value.agg #[ac, ad, o, ae, p], b] w fun e w' => ∃ v, e = .returned v ∧ ((fun (cb : Bool) => ∃ (aT : PHeap) , PHeap.le s aT ∧ St w0 aT (H) w' ∧ v = Value.bool (cb)) r) := by
 unfold invariant_balanced_p at hm
 refine calls_of_W Tryz.func23 rfl rfl (Zc (Zd (Za rfl rfl (Exec.box (cs := [ac, ad, o, ae, p]) hS rfl rfl rfl ?_))))
 intro ab cL bp
 refine Za rfl rfl (Zo (v := Value.bool (false)) rfl rfl (Zb (Ze (Zc (Zc (Zd (Za rfl rfl (Zm (v := b) rfl rfl (Za rfl rfl (Zr S24 rfl rfl aa (Za rfl rfl (Zm (v := Vi (0)) rfl rfl (Zb (Ze ?_))))))))))))))
 obtain ⟨a3, bg, b4, b0, bv⟩ := ctl_some hm
 refine W_mid (M := fun f' w' => ∃ s', (a3 = .next s' ∨ a3 = .brk s') ∧ (fun (_ : Unit) => ∃ (aU : PHeap) , PHeap.le s aU ∧ St w0 aU (Res.box ab 28 [ac, ad, o, ae, p] :: H) w' ∧ f' 1 = b ∧ f' 2 = Value.pointer (some ⟨ab, 0, none⟩) ∧ f' 9 = b ∧ f' 10 = Vi ((ag.length : Int))) s') ?_ ?_
 ·refine W_block (W_forC (fun k' s' f' w' => (fun (_ : Unit) => ∃ (aV : PHeap) , PHeap.le s aV ∧ St w0 aV (Res.box ab 28 [ac, ad, o, ae, p] :: H) w' ∧ f' 1 = b ∧ f' 2 = Value.pointer (some ⟨ab, 0, none⟩) ∧ f' 9 = b ∧ f' 10 = Vi ((ag.length : Int)) ∧ f' 11 = Vi (k' : Int)) s') bg ?_ ?_ ?_)
  ·exact ⟨s, (Zv _), bp, rfl, rfl, rfl, rfl, rfl⟩
  ·intro t cC a4 cv cM bx bi l b6
   obtain ⟨ap, ak, q, al, am, an, ao, x⟩ := bi
   refine Zc (Zd (Za rfl rfl (Zq rfl x ao (Zb (Ze (Zc (W_true (Zx (decide_eq_true (by omega))) (W_skip (Ze (Zc (W_block (Zc (Zd (Za rfl rfl (Zm (v := Vi ((t : Int))) rfl x ?_)))))))))))))))
   obtain ⟨y, bO, l⟩ := Zg l
   refine Za rfl rfl (Exec.index_rep S24 rfl an x (aa.mono ak) bO ?_)
   intro ce c2 bd
   refine Za rfl rfl (Zw (E := (encInt .i64)) q A3 rfl rfl rfl bd ?_)
   intro cI bP
   obtain rfl := encInt_val.1 bP
   refine Za rfl rfl (Zo (v := Vi ((t : Int))) rfl rfl (Za rfl rfl (Zo (v := Vi (y)) rfl rfl (Zb (Ze (Zc ?_))))))
   obtain ⟨z, a, l⟩ := Zg l
   refine W_mid (M := fun f' w' => (fun (z : Bool) => ∃ (aW : PHeap) , PHeap.le ap aW ∧ St w0 aW (Res.box ab 28 [ac, ad, o, ae, p] :: H) w' ∧ f' 1 = b ∧ f' 2 = Value.pointer (some ⟨ab, 0, none⟩) ∧ f' 9 = b ∧ f' 10 = Vi ((ag.length : Int)) ∧ f' 11 = Vi ((t : Int)) ∧ f' 37 = Value.bool (z)) z) ?_ ?_
   ·refine Zd (Za rfl rfl (Zm (v := Vi (y)) rfl rfl (Za rfl rfl (Zq rfl rfl rfl (Za rfl rfl (Zm (v := Value.bool (decide (y < 0))) rfl rfl ?_))))))
    rcases ite_some a with ⟨i, a⟩ | ⟨i, a⟩
    ·refine WL_passes 19 (by rw [i]; rfl) ?_
     refine Zb (Ze ?_)
     have ci := Zu a
     subst z
     exact ⟨ap, (Zv _), q, al, am, an, ao, x, rfl⟩
    replace i := Zk i
    refine WL_run rfl (Zf rfl (Zx i)) rfl (Zm (v := Vi (y)) rfl rfl (WL_run rfl (Zf rfl (Zx i)) rfl (Zp F28_0 rfl am rfl (WL_run rfl (Zf rfl (Zx i)) rfl (Zn (q) A22 rfl rfl rfl (WL_run rfl (Zf rfl (Zx i)) rfl (Zr S22 rfl rfl (bc.mono ak) (WL_run rfl (Zf rfl (Zx i)) rfl (Exec.geq rfl rfl rfl ?_)))))))))
    refine WL_passes 2 (by rw [i]; rfl) ?_
    rcases ite_some a with ⟨g, a⟩ | ⟨g, a⟩
    ·refine WL_passes 12 (by rw [g]; rfl) ?_
     refine Zb (Ze ?_)
     have cj := Zu a
     subst z
     exact ⟨ap, (Zv _), q, al, am, an, ao, x, rfl⟩
    replace g := Zk g
    refine WL_run rfl (Zf rfl (Zx g)) rfl (Zm (v := Vi ((t : Int))) rfl rfl (WL_run rfl (Zf rfl (Zx g)) rfl (Exec.gtr rfl rfl rfl (WL_run rfl (Zf rfl (Zx g)) rfl (Zm (v := Value.bool (decide (0 < (t : Int)))) rfl rfl ?_)))))
    rcases ite_some a with ⟨d, a⟩ | ⟨d, a⟩
    ·refine WL_run rfl (Zf rfl (Zx d)) rfl (Zm (v := b) rfl al (WL_run rfl (Zf rfl (Zx d)) rfl (Zm (v := Vi ((t : Int))) rfl rfl (WL_run rfl (Zf rfl (Zx d)) rfl (Exec.sub rfl rfl rfl ?_)))))
     obtain ⟨bb, bQ, a⟩ := Zg a
     refine WL_run rfl (Zf rfl (Zx d)) rfl (Exec.index_rep S24 rfl rfl rfl (aa.mono ak) bQ ?_)
     intro cf c3 be
     refine WL_run rfl (Zf rfl (Zx d)) rfl (Zw (E := (encInt .i64)) q A3 rfl rfl rfl be ?_)
     intro cJ bR
     obtain rfl := encInt_val.1 bR
     refine WL_run rfl (Zf rfl (Zx d)) rfl (Zm (v := Vi (y)) rfl rfl (WL_run rfl (Zf rfl (Zx d)) rfl (Exec.geq rfl rfl rfl (WL_run rfl (Zf rfl (Zx g)) rfl (Zs (v := Value.bool (decide (y ≤ bb))) rfl (Zx d) rfl (Za rfl rfl (Exec.pick_f (v := Value.bool (decide (y ≤ bb))) rfl (Zx g) rfl (Zb (Ze ?_)))))))))
     have ck := Zu a
     subst z
     exact ⟨ap, (Zv _), q, al, am, an, ao, x, rfl⟩
    replace d := Zk d
    refine WL_passes 7 (by rw [d]; rfl) ?_
    refine WL_run rfl (Zf rfl (Zx g)) rfl (Exec.pick_f (v := Value.bool (false)) rfl rfl rfl (Za rfl rfl (Exec.pick_f (v := Value.bool (false)) rfl (Zx g) rfl (Zb (Ze ?_)))))
    have cl := Zu a
    subst z
    exact ⟨ap, (Zv _), q, al, am, an, ao, x, rfl⟩
   intro cw cN bm
   obtain ⟨aX, aE, a7, bE, bF, bG, bH, bI, aG⟩ := bm
   refine (Ze ?_)
   rcases ite_some l with ⟨ah, l⟩ | ⟨ah, l⟩
   ·refine W_cond_t aG ah (Zc (Zd (Za rfl rfl (Zo (v := Value.bool (false)) rfl rfl (Zb (Ze (W_ret (ib_ret (at_ret (at_ret (ib_ret (at_ret (at_ret ?_)))))))))))))
    have cm := Zu l
    subst a4
    have b2 := b4 _ (b6 (by intro _ h; cases h))
    have cn := Zu b2
    subst r
    refine ⟨_, ret1 rfl, ?_⟩
    exact ⟨aX, (Zt ak aE), (a7).drop, rfl⟩
   refine W_cond_f aG ah ?_
   replace ah := Zk ah
   refine W_skip (ib_normal (Ze (Zd (Za rfl rfl (Exec.add rfl bI rfl (Za rfl rfl (Zm (v := Vi (IntKind.i64.wrap ((t : Int) + 1))) rfl rfl (Zb (Ze ?_)))))))))
   have co := Zu l
   subst a4
   refine ⟨_, rfl, ?_⟩; exact ⟨aX, (Zt ak aE), a7, bE, bF, bG, bH, (Eq.trans rfl (wrap_up bx (SliceRep.le aa)))⟩
  intro cD cx cO bj b7
  obtain ⟨bW, bB, bq, bJ, bK, bL, aH, bZ⟩ := bj
  refine Zc (Zd (Za rfl rfl (Zq rfl bZ aH (Zb (Ze (Zc (W_false (Zx (decide_eq_false (by omega))) (W_exit (at_exit (at_exit (ib_here (Ze ?_))))))))))))
  refine ⟨_, .inl b7, ?_⟩; exact ⟨bW, bB, bq, bJ, bK, bL, aH⟩
 rintro cy cP ⟨cE, aC, bn⟩
 have hm := aC.elim (b0 _) (bv _)
 clear aC
 obtain ⟨cA, j, a8, aI, aJ, c5, c6⟩ := bn
 refine (Ze (Zc (Zc (Zd (Za rfl rfl (Zp F28_2 rfl aJ rfl (Za rfl rfl (Zn (a8) A24 rfl rfl rfl (Za rfl rfl (Exec.build rfl (parts_cons (c := [o]) (cells_of rfl (cells_one ((a2.mono j)).one)) parts_nil) (v := Value.agg #[o, Value.slice none 0 0]) (fun _ => by kernel_rfl) (Za rfl rfl (Zm (v := b) rfl aI ?_))))))))))))
 obtain ⟨cX, bS, hm⟩ := Zg hm
 refine Za rfl rfl (Tc rfl rfl rfl (Zi rfl (Zi rfl args_nil)) (invariant_Holds_sim bS a8 (a2.mono j) (SliceRep.nil _ _) (aa.mono j)).r ?_)
 rintro _ cQ ⟨ar, u, av, rfl⟩
 refine Za rfl rfl (Exec.not rfl rfl (Zb (Ze ?_)))
 rcases ite_some hm with ⟨ai, hm⟩ | ⟨ai, hm⟩
 ·refine W_cond_t rfl ai (Zc (Zd (Za rfl rfl (Zo (v := Value.bool (false)) rfl rfl (Zb (Ze (W_ret (at_ret ?_))))))))
  have cp := Zu hm
  subst r
  refine ⟨_, ret1 rfl, ?_⟩
  exact ⟨ar, (Zt j u), (av).drop, rfl⟩
 refine W_cond_f rfl ai ?_
 replace ai := Zk ai
 refine W_skip (Ze (Zc (Zc (Zd (Za rfl rfl (Zp F28_4 rfl aJ rfl (Za rfl rfl (Zn (av) A26 rfl rfl rfl (Za rfl rfl (Zr S26 rfl rfl (au.mono (Zt j u)) (Za rfl rfl (Zm (v := Vi (0)) rfl rfl (Zb (Ze ?_))))))))))))))
 obtain ⟨a5, bh, b5, b1, bw⟩ := ctl_some hm
 refine W_mid (M := fun f' w' => ∃ s', (a5 = .next s' ∨ a5 = .brk s') ∧ (fun (_ : Unit) => ∃ (aY : PHeap) , PHeap.le ar aY ∧ St w0 aY (H) w' ∧ f' 1 = b ∧ f' 46 = p ∧ f' 47 = Vi ((n.Ops.length : Int))) s') ?_ ?_
 ·refine W_block (W_forC (fun k' s' f' w' => (fun (_ : Unit) => ∃ (aZ : PHeap) , PHeap.le ar aZ ∧ St w0 aZ (H) w' ∧ f' 1 = b ∧ f' 46 = p ∧ f' 47 = Vi ((n.Ops.length : Int)) ∧ f' 48 = Vi (k' : Int)) s') bh ?_ ?_ ?_)
  ·have br := (av).drop
   exact ⟨ar, (Zv _), br, aI, rfl, rfl, rfl⟩
  ·intro bA cF a6 cz cR bz bk m b8
   obtain ⟨cB, aq, a9, aK, aL, aM, a1⟩ := bk
   refine Zc (Zd (Za rfl rfl (Zq rfl a1 aM (Zb (Ze (Zc (W_true (Zx (decide_eq_true (by omega))) (W_skip (Ze (Zc (W_block (Zc (Zd ?_)))))))))))))
   obtain ⟨af, bT, m⟩ := Zg m
   refine Za rfl rfl (Exec.index_rep S26 rfl aL a1 (au.mono (Zt (Zt j u) aq)) bT ?_)
   intro cg c4 bf
   refine Za rfl rfl (Zw (E := encGOp) a9 A63 rfl rfl rfl bf ?_)
   intro cK bU
   obtain ⟨aw, ax, ay, az, a0, rfl, aO, aP, aQ, aR, aS⟩ := encGOp_val.1 bU
   refine Za rfl rfl (Exec.alloc (cs := [Value.string (⟨#[]⟩), Vi (0), Value.slice none 0 0, Value.slice none 0 0, Value.slice none 0 0, Value.slice none 0 0, Value.slice none 0 0]) a9 Z63 rfl rfl ?_)
   intro ch cS bs
   refine Za rfl rfl (Exec.store_box (ds := [Value.string (af.Name), Vi (af.Cost), aw, ax, ay, az, a0]) (es := [Value.string (af.Name), Vi (af.Cost), aw, ax, ay, az, a0]) bs A63 rfl rfl rfl rfl (Zj rfl (Zj rfl (Zj (aO).one (Zj (aP).one (Zj (aQ).one (Zj (aR).one (Zj (aS).one one_nil))))))) (Nat.le_of_ble_eq_true rfl) rfl ?_)
   intro cT aA
   refine Zb (Ze (Zc (Zd (Za rfl rfl (Exec.load_box_agg (ds := [Value.string (af.Name), Vi (af.Cost), aw, ax, ay, az, a0]) (aA) A63 rfl rfl rfl (Za rfl rfl (Zm (v := b) rfl aK ?_)))))))
   obtain ⟨cY, bV, m⟩ := Zg m
   refine Za rfl rfl (Tc rfl rfl rfl (Zi rfl (Zi rfl args_nil)) (invariant_keeps_sim bV aA aO aP aQ aR aS (aa.mono (Zt (Zt j u) aq))).r ?_)
   rintro _ cU ⟨ba, aF, aB, rfl⟩
   refine Za rfl rfl (Exec.not rfl rfl (Zb (Ze ?_)))
   rcases ite_some m with ⟨aj, m⟩ | ⟨aj, m⟩
   ·refine W_cond_t rfl aj (Zc (Zd (Za rfl rfl (Zo (v := Value.bool (false)) rfl rfl (Zb (Ze (W_ret (ib_ret (at_ret (at_ret (ib_ret (at_ret (at_ret ?_)))))))))))))
    have cq := Zu m
    subst a6
    have b3 := b5 _ (b8 (by intro _ h; cases h))
    have cr := Zu b3
    subst r
    refine ⟨_, ret1 rfl, ?_⟩
    exact ⟨ba, (Zt (Zt (Zt j u) aq) aF), (aB).drop, rfl⟩
   refine W_cond_f rfl aj ?_
   replace aj := Zk aj
   refine W_skip (ib_normal (Ze (Zd (Za rfl rfl (Exec.add rfl a1 rfl (Za rfl rfl (Zm (v := Vi (IntKind.i64.wrap ((bA : Int) + 1))) rfl rfl (Zb (Ze ?_)))))))))
   have ct := Zu m
   subst a6
   refine ⟨_, rfl, ?_⟩; exact ⟨ba, (Zt aq aF), (aB).drop, aK, aL, aM, (Eq.trans rfl (wrap_up bz (SliceRep.le (au.mono (Zt j u)))))⟩
  intro cG c0 cV bl b9
  obtain ⟨bX, bC, bt, bM, bN, aN, ca⟩ := bl
  refine Zc (Zd (Za rfl rfl (Zq rfl ca aN (Zb (Ze (Zc (W_false (Zx (decide_eq_false (by omega))) (W_exit (at_exit (at_exit (ib_here (Ze ?_))))))))))))
  refine ⟨_, .inl b9, ?_⟩; exact ⟨bX, bC, bt, bM, bN, aN⟩
 rintro c1 cW ⟨cH, aD, bo⟩
 have hm := aD.elim (b1 _) (bw _)
 clear aD
 obtain ⟨bY, bD, bu, c7, c8, c9⟩ := bo
 refine (Ze (Zc (Zd (Za rfl rfl (Zo (v := Value.bool (true)) rfl rfl (Zb (Ze (W_ret ?_))))))))
 have cu := Zu hm
 subst r
 refine ⟨_, ret1 rfl, ?_⟩
 exact ⟨bY, (Zt (Zt j u) bD), bu, rfl⟩
theorem invariant_inside_sim {w0 w : World} {s : PHeap} {H : List Res} {i : (List Int)} {q : (List Int)} {b : Value} {c : Value} {r : Bool} (hm : invariant_inside_p i q = some r) (hS : St w0 s (H) w) (j : SliceRep (encInt .i64) s b i) (p : SliceRep (encInt .i64) s c q) :
  Calls Tryz.prog 28 #[b, c] w fun e w' => ∃ v, e = .returned v ∧ ((fun (aC : Bool) => ∃ (af : PHeap) , PHeap.le s af ∧ St w0 af (H) w' ∧ v = Value.bool (aC)) r) := by
 unfold invariant_inside_p at hm
 refine calls_of_W Tryz.func28 rfl rfl (Zc (Zd (Za rfl rfl (Zo (v := Value.bool (false)) rfl rfl (Zb (Ze (Zc (Zc (Zd (Za rfl rfl (Zm (v := b) rfl rfl (Za rfl rfl (Zr S24 rfl rfl j (Za rfl rfl (Zm (v := c) rfl rfl (Za rfl rfl (Zr S24 rfl rfl p (Za rfl rfl (Exec.gtr rfl rfl rfl (Zb (Ze ?_)))))))))))))))))))))
 rcases ite_some hm with ⟨d, hm⟩ | ⟨d, hm⟩
 ·refine W_cond_t rfl d (Zc (Zd (Za rfl rfl (Zo (v := Value.bool (false)) rfl rfl (Zb (Ze (W_ret (at_ret ?_))))))))
  have aE := Zu hm
  subst r
  refine ⟨_, ret1 rfl, ?_⟩
  exact ⟨s, (Zv _), hS, rfl⟩
 refine W_cond_f rfl d ?_
 replace d := Zk d
 refine W_skip (Ze (Zc (Zc (Zd (Za rfl rfl (Zm (v := b) rfl rfl (Za rfl rfl (Zr S24 rfl rfl j (Za rfl rfl (Zm (v := Vi (0)) rfl rfl (Zb (Ze ?_))))))))))))
 obtain ⟨t, al, ax, av, ar⟩ := ctl_some hm
 refine W_mid (M := fun f' w' => ∃ s', (t = .next s' ∨ t = .brk s') ∧ (fun (_ : Unit) => ∃ (ag : PHeap) , PHeap.le s ag ∧ St w0 ag (H) w' ∧ f' 1 = c ∧ f' 14 = b ∧ f' 15 = Vi ((i.length : Int))) s') ?_ ?_
 ·refine W_block (W_forC (fun k' s' f' w' => (fun (_ : Unit) => ∃ (ah : PHeap) , PHeap.le s ah ∧ St w0 ah (H) w' ∧ f' 1 = c ∧ f' 14 = b ∧ f' 15 = Vi ((i.length : Int)) ∧ f' 16 = Vi (k' : Int)) s') al ?_ ?_ ?_)
  ·exact ⟨s, (Zv _), hS, rfl, rfl, rfl, rfl⟩
  ·intro a0 aR u aJ aV au am a ay
   obtain ⟨aQ, l, x, ab, ac, ad, n⟩ := am
   refine Zc (Zd (Za rfl rfl (Zq rfl n ad (Zb (Ze (Zc (W_true (Zx (decide_eq_true (by omega))) (W_skip (Ze (Zc (W_block (Zc (Zd ?_)))))))))))))
   obtain ⟨aj, a5, a⟩ := Zg a
   refine Za rfl rfl (Exec.index_rep S24 rfl ac n (j.mono l) a5 ?_)
   intro aD aM ak
   refine Za rfl rfl (Zw (E := (encInt .i64)) x A3 rfl rfl rfl ak ?_)
   intro aU a6
   obtain rfl := encInt_val.1 a6
   refine Za rfl rfl (Zo (v := Vi (aj)) rfl rfl (Zb (Ze (Zc (Zd (Za rfl rfl (Zm (v := c) rfl ab (Za rfl rfl (Zm (v := Vi (aj)) rfl rfl ?_)))))))))
   obtain ⟨aA, a7, a⟩ := Zg a
   obtain ⟨o, m⟩ := aA
   replace a := un2_eq a
   refine Za rfl rfl (Tc rfl rfl rfl (Zi rfl (Zi rfl args_nil)) (slices_BinarySearch_int_sim a7 x (p.mono l)).r ?_)
   rintro _ aW ⟨ai, aa, y, rfl⟩
   refine Za rfl rfl (Zm (v := Value.tuple #[Vi (o), Value.bool (m)]) rfl rfl (Za rfl rfl (Exec.extract (v := Vi (o)) rfl rfl rfl (Za rfl rfl (Exec.extract (v := Value.bool (m)) rfl rfl rfl (Za rfl rfl (Zo (v := Vi (o)) rfl rfl (Za rfl rfl (Zo (v := Value.bool (m)) rfl rfl (Zb (Ze (Zc (Zd (Za rfl rfl (Zm (v := Value.bool (m)) rfl rfl (Za rfl rfl (Exec.not rfl rfl (Zb (Ze ?_)))))))))))))))))))
   rcases ite_some a with ⟨g, a⟩ | ⟨g, a⟩
   ·refine W_cond_t rfl g (Zc (Zd (Za rfl rfl (Zo (v := Value.bool (false)) rfl rfl (Zb (Ze (W_ret (ib_ret (at_ret (at_ret (ib_ret (at_ret (at_ret ?_)))))))))))))
    have aF := Zu a
    subst u
    have aw := ax _ (ay (by intro _ h; cases h))
    have aG := Zu aw
    subst r
    refine ⟨_, ret1 rfl, ?_⟩
    exact ⟨ai, (Zt l aa), y, rfl⟩
   refine W_cond_f rfl g ?_
   replace g := Zk g
   refine W_skip (ib_normal (Ze (Zd (Za rfl rfl (Exec.add rfl n rfl (Za rfl rfl (Zm (v := Vi (IntKind.i64.wrap ((a0 : Int) + 1))) rfl rfl (Zb (Ze ?_)))))))))
   have aH := Zu a
   subst u
   refine ⟨_, rfl, ?_⟩; exact ⟨ai, (Zt l aa), y, ab, ac, ad, (Eq.trans rfl (wrap_up au (SliceRep.le j)))⟩
  intro aS aK aX an az
  obtain ⟨a8, a1, ap, a3, a4, ae, aB⟩ := an
  refine Zc (Zd (Za rfl rfl (Zq rfl aB ae (Zb (Ze (Zc (W_false (Zx (decide_eq_false (by omega))) (W_exit (at_exit (at_exit (ib_here (Ze ?_))))))))))))
  refine ⟨_, .inl az, ?_⟩; exact ⟨a8, a1, ap, a3, a4, ae⟩
 rintro aL aY ⟨aT, z, ao⟩
 have hm := z.elim (av _) (ar _)
 clear z
 obtain ⟨a9, a2, aq, aN, aO, aP⟩ := ao
 refine (Ze (Zc (Zd (Za rfl rfl (Zo (v := Value.bool (true)) rfl rfl (Zb (Ze (W_ret ?_))))))))
 have aI := Zu hm
 subst r
 refine ⟨_, ret1 rfl, ?_⟩
 exact ⟨a9, a2, aq, rfl⟩
theorem invariant_Groups_sim {w0 w : World} {s : PHeap} {H : List Res} {fu : Nat} {ag : Ground} {m : Value} {n : Value} {o : Value} {p : Value} {q : Value} {r : (List (List Int)) × (Option Int)} (hm : invariant_Groups_p fu ag = some r) (hS : St w0 s (H) w) (a9 : SliceRep encAtom s m ag.Atoms) (aA : SliceRep encGFluent s n ag.Fluents) (aB : SliceRep (encInt .i64) s o ag.Init) (aC : SliceRep encCond s p ag.Goal) (aD : SliceRep encGOp s q ag.Ops) (ht : TabQ Tryz.prog s) :
  Calls Tryz.prog 14 #[Value.agg #[m, n, o, p, q]] w fun e w' => ∃ v, e = .returned v ∧ ((un2 fun (dx : (List (List Int))) (dy : (Option Int)) => ∃ (aR : PHeap) (bA : Value), PHeap.le s aR ∧ St w0 aR (H) w' ∧ v = Value.tuple #[bA, errV 45 (dy)] ∧ SliceRep (encSlice (encInt .i64)) aR bA dx) r) := by
 unfold invariant_Groups_p at hm
 refine calls_of_W Tryz.func14 rfl rfl (Zc (Zd (Za rfl rfl (Exec.box (cs := [m, n, o, p, q]) hS rfl rfl rfl ?_))))
 intro ad ei ba
 refine Za rfl rfl (Zo (v := Value.slice none 0 0) rfl rfl (Za rfl rfl (Zo (v := errV 45 (none)) rfl rfl (Zb (Ze (Zc (Zc (Zd (Za rfl rfl (Exec.load_box_agg (ds := [m, n, o, p, q]) (ba) A28 rfl rfl rfl ?_))))))))))
 obtain ⟨e3, cS, hm⟩ := Zg hm
 refine Za rfl rfl (Tc rfl rfl rfl (Zi rfl args_nil) (ground_Valid_sim cS ba a9 aA aB aC aD).r ?_)
 rintro _ ej ⟨df, d, aE, rfl⟩
 refine Za rfl rfl (Exec.not rfl rfl (Zb (Ze ?_)))
 rcases ite_some hm with ⟨am, hm⟩ | ⟨am, hm⟩
 ·refine W_cond_t rfl am (Zc (Zd (Za rfl rfl (Exec.makeInterface C45 rfl rfl (Za rfl rfl (Zo (v := Value.slice none 0 0) rfl rfl (Za rfl rfl (Zo (v := errV 45 (some 2)) rfl rfl (Zb (Ze (W_ret (at_ret ?_))))))))))))
  have d7 := Zu hm
  subst r
  refine ⟨_, ret2 rfl, ?_⟩
  exact ⟨df, (Value.slice none 0 0), d, (aE).drop, (tup2 rfl rfl), (SliceRep.nil _ _)⟩
 refine W_cond_f rfl am ?_
 replace am := Zk am
 refine W_skip (Ze (Zc (Zd (Za rfl rfl (Zo (v := Value.slice none 0 0) rfl rfl (Zb (Ze (Zc (Zc (Zd (Za rfl rfl (Exec.load_box_agg (ds := [m, n, o, p, q]) (aE) A28 rfl rfl rfl ?_))))))))))))
 obtain ⟨aX, cT, hm⟩ := Zg hm
 refine Za rfl rfl (Tc rfl rfl rfl (Zi rfl args_nil) (invariant_candidates_sim cT aE (a9.mono d) (aA.mono d) (aB.mono d) (aC.mono d) (aD.mono d) (ht.mono d)).r ?_)
 rintro aU ek ⟨bx, _, ai, bS, rfl, aQ⟩
 refine Za rfl rfl (Zr S36 rfl rfl aQ (Za rfl rfl (Zm (v := Vi (0)) rfl rfl (Zb (Ze ?_)))))
 obtain ⟨b, bF, hm⟩ := Zg hm
 refine W_block (W_forS (fun k' s' f' w' => (fun (b : (List (List Int))) => ∃ (bz : PHeap) (a : Value), PHeap.le bx bz ∧ St w0 bz (Res.box ad 28 [m, n, o, p, q] :: Res.arr (encSlice (encInt .i64)) 24 a b :: H) w' ∧ f' 1 = Value.pointer (some ⟨ad, 0, none⟩) ∧ f' 4 = a ∧ f' 18 = aU ∧ f' 19 = Vi ((aX.length : Int)) ∧ f' 20 = Vi (k' : Int)) s') bF ?_ ?_ ?_)
 ·have bT := bS.nilArr (encSlice (encInt .i64)) 24
  exact ⟨bx, (Value.slice none 0 0), (Zv _), (bT).f1, rfl, rfl, rfl, rfl, rfl⟩
 ·intro aG b dg dL el cj bI y
  obtain ⟨b0, a, ac, ax, aI, bf, aJ, aK, a7⟩ := bI
  refine Zc (Zd (Za rfl rfl (Zq rfl a7 aK (Zb (Ze (Zc (W_true (Zx (decide_eq_true (by omega))) (W_skip (Ze (Zc (W_block (Zc (Zd ?_)))))))))))))
  obtain ⟨aW, cU, y⟩ := Zg y
  refine Za rfl rfl (Exec.index_rep S36 rfl aJ a7 (aQ.mono ac) cU ?_)
  intro d2 dZ bE
  refine Za rfl rfl (Zw (E := (encSlice (encInt .i64))) ax A24 rfl rfl rfl bE ?_)
  intro x cV
  have a4 : SliceRep _ _ _ (aW) := encSlice_val.1 cV
  refine Za rfl rfl (Zo (v := x) rfl rfl (Zb (Ze (Zc ?_))))
  obtain ⟨aw, aa, y⟩ := Zg y
  refine W_mid (M := fun f' w' => (fun (aw : Bool) => ∃ (b1 : PHeap) , PHeap.le b0 b1 ∧ St w0 b1 (Res.box ad 28 [m, n, o, p, q] :: Res.arr (encSlice (encInt .i64)) 24 a b :: H) w' ∧ f' 1 = Value.pointer (some ⟨ad, 0, none⟩) ∧ f' 4 = a ∧ f' 6 = x ∧ f' 18 = aU ∧ f' 19 = Vi ((aX.length : Int)) ∧ f' 20 = Vi ((aG : Int)) ∧ f' 31 = Value.bool (aw)) aw) ?_ ?_
  ·refine Zd (Za rfl rfl (Zm (v := x) rfl rfl (Za rfl rfl (Zr S24 rfl rfl a4 (Za rfl rfl (Exec.geq rfl rfl rfl (Za rfl rfl (Zm (v := Value.bool (decide (2 ≤ (aW.length : Int)))) rfl rfl ?_))))))))
   rcases ite_some aa with ⟨t, aa⟩ | ⟨t, aa⟩
   ·refine WL_run rfl (Zf rfl (Zx t)) rfl (Exec.load_box_agg (ds := [m, n, o, p, q]) (ax) A28 rfl aI rfl (WL_run rfl (Zf rfl (Zx t)) rfl (Zm (v := x) rfl rfl ?_)))
    obtain ⟨dz, cW, aa⟩ := Zg aa
    refine WL_run rfl (Zf rfl (Zx t)) rfl (Tc rfl rfl rfl (Zi rfl (Zi rfl args_nil)) (invariant_balanced_sim cW ax (a9.mono (Zt (Zt d ai) ac)) (aA.mono (Zt (Zt d ai) ac)) (aB.mono (Zt (Zt d ai) ac)) (aC.mono (Zt (Zt d ai) ac)) (aD.mono (Zt (Zt d ai) ac)) a4).r ?_)
    rintro _ em ⟨dh, cm, bU, rfl⟩
    refine Za rfl rfl (Zs (v := Value.bool (dz)) rfl (Zx t) rfl (Zb (Ze ?_)))
    have d8 := Zu aa
    subst aw
    exact ⟨dh, cm, ((bU).f1).f1, aI, bf, rfl, aJ, aK, a7, rfl⟩
   replace t := Zk t
   refine WL_passes 4 (by rw [t]; rfl) ?_
   refine Zb (Ze ?_)
   have d9 := Zu aa
   subst aw
   exact ⟨b0, (Zv _), ((ax).f1).f1, aI, bf, rfl, aJ, aK, a7, rfl⟩
  intro dM en bO
  obtain ⟨aS, aH, bb, bg, bh, cy, bi, bj, bk, bl⟩ := bO
  refine (Ze ?_)
  obtain ⟨aq, ab, y⟩ := Zg y
  refine W_mid (M := fun f' w' => (fun (aq : (List (List Int))) => ∃ (b2 : PHeap) (a5 : Value), PHeap.le aS b2 ∧ St w0 b2 (Res.box ad 28 [m, n, o, p, q] :: Res.arr (encSlice (encInt .i64)) 24 a5 aq :: H) w' ∧ f' 1 = Value.pointer (some ⟨ad, 0, none⟩) ∧ f' 4 = a5 ∧ f' 18 = aU ∧ f' 19 = Vi ((aX.length : Int)) ∧ f' 20 = Vi ((aG : Int))) aq) ?_ ?_
  ·rcases ite_some ab with ⟨an, ab⟩ | ⟨an, ab⟩
   ·refine W_cond_t bl an (Zd (Za rfl rfl (Zm (v := a) rfl bh (Za rfl rfl (Zm (v := x) rfl cy (Za rfl rfl (Exec.buildSlice (Te := 24) (cs := [x]) bb rfl (parts_cons (c := [x]) (cells_of rfl (cells_one ((a4.mono aH)).one)) parts_nil) (fun _ => by kernel_rfl) ?_)))))))
    intro d3 eo bV
    obtain ⟨dX, cX, ab⟩ := Zg ab
    refine Za rfl rfl (Exec.append_box (E := (encSlice (encInt .i64))) (ys := [aW]) (bV).f2 S36 Z24 rfl (by decide) rfl rfl rfl rfl ⟨[x], [], rfl, ⟨_, rfl, (a4.mono aH)⟩, rfl⟩ rfl cX ?_)
    intro bB ep bW
    refine Za rfl rfl (Zo (v := bB) rfl rfl (Zb (Ze ?_)))
    have dA := Zu ab
    subst aq
    exact ⟨aS, bB, (Zv _), (bW).f1, bg, rfl, bi, bj, bk⟩
   refine W_cond_f bl an ?_
   replace an := Zk an
   refine W_skip (Ze ?_)
   have dB := Zu ab
   subst aq
   exact ⟨aS, a, (Zv _), ((bb).f1).f1, bg, bh, bi, bj, bk⟩
  intro dN er bP
  obtain ⟨di, a5, cn, bX, cz, c0, c1, c2, c3⟩ := bP
  refine (ib_normal (Ze (Zd (Za rfl rfl (Exec.add rfl c3 rfl (Za rfl rfl (Zm (v := Vi (IntKind.i64.wrap ((aG : Int) + 1))) rfl rfl (Zb (Ze ?_)))))))))
  have dC := Zu y
  subst dg
  exact ⟨di, a5, (Zt (Zt ac aH) cn), ((bX).f1).f1, cz, c0, c1, c2, (Eq.trans rfl (wrap_up cj (SliceRep.le aQ)))⟩
 intro dO es bJ
 obtain ⟨b3, a, co, aF, ea, bm, eb, c4, dr⟩ := bJ
 refine Zc (Zd (Za rfl rfl (Zq rfl dr c4 (Zb (Ze (Zc (W_false (Zx (decide_eq_false (by omega))) (W_exit (at_exit (at_exit (ib_here (Ze (Zc (Zd (Za rfl rfl (Zo (v := Value.slice none 0 0) rfl rfl (Zb (Ze (Zc (Zc (Zd (Za rfl rfl (Zm (v := a) rfl bm (Za rfl rfl (Exec.len_arr ((aF).f1) S36 rfl rfl (Za rfl rfl (Zm (v := Vi (0)) rfl rfl (Zb (Ze ?_)))))))))))))))))))))))))))))
 obtain ⟨au, bG, hm⟩ := Zg hm
 refine W_block (W_forS (fun k' s' f' w' => (fun (au : (List (List Int))) => ∃ (b4 : PHeap) (g : Value), PHeap.le b3 b4 ∧ St w0 b4 (Res.arr (encSlice (encInt .i64)) 24 a b :: Res.arr (encSlice (encInt .i64)) 24 g au :: H) w' ∧ f' 4 = a ∧ f' 7 = g ∧ f' 37 = a ∧ f' 38 = Vi ((b.length : Int)) ∧ f' 39 = Vi (k' : Int)) s') bG ?_ ?_ ?_)
 ·have bY := aF.nilArr (encSlice (encInt .i64)) 24
  exact ⟨b3, (Value.slice none 0 0), (Zv _), (((bY).f1).drop).f1, bm, rfl, rfl, rfl, rfl⟩
 ·intro j au dj dP et ck bK z
  obtain ⟨b5, g, cp, ak, bn, c5, bo, bp, a8⟩ := bK
  refine Zc (Zd (Za rfl rfl (Zq rfl a8 bp (Zb (Ze (Zc (W_true (Zx (decide_eq_true (by omega))) (W_skip (Ze (Zc (W_block (Zc (Zd (Za rfl rfl (Zm (v := Vi ((j : Int))) rfl a8 ?_)))))))))))))))
  obtain ⟨dt, a2, z⟩ := Zg z
  obtain ⟨dV, d5, aY⟩ := (ak).arr_at a2
  refine Za rfl rfl (Exec.index_slice S36 rfl (Eq.trans bo aY) a8 (idx_some a2).1 (idx_some a2).2.1 (Za rfl rfl (Exec.load_arr (F := (encSlice (encInt .i64))) (ak) aY A24 rfl rfl rfl a2 (Sub.refl _) ?_)))
  intro av cY
  have bv : SliceRep _ _ _ (dt) := encSlice_val.1 cY
  refine Za rfl rfl (Zo (v := Vi ((j : Int))) rfl rfl (Za rfl rfl (Zo (v := av) rfl rfl (Zb (Ze (Zc (Zd (Za rfl rfl (Zo (v := Value.bool (false)) rfl rfl (Zb (Ze (Zc (Zc (Zd (Za rfl rfl (Zm (v := a) rfl bn (Za rfl rfl (Exec.len_arr (ak) S36 rfl rfl (Za rfl rfl (Zm (v := Vi (0)) rfl rfl (Zb (Ze ?_))))))))))))))))))))))
  obtain ⟨ae, bH, z⟩ := Zg z
  refine W_block (W_forS (fun k' s' f' w' => (fun (ae : Bool) => ∃ (b6 : PHeap) , PHeap.le b5 b6 ∧ St w0 b6 (Res.arr (encSlice (encInt .i64)) 24 a b :: Res.arr (encSlice (encInt .i64)) 24 g au :: H) w' ∧ f' 4 = a ∧ f' 7 = g ∧ f' 8 = Vi ((j : Int)) ∧ f' 9 = av ∧ f' 10 = Value.bool (ae) ∧ f' 37 = a ∧ f' 38 = Vi ((b.length : Int)) ∧ f' 39 = Vi ((j : Int)) ∧ f' 44 = a ∧ f' 45 = Vi ((b.length : Int)) ∧ f' 46 = Vi (k' : Int)) s') bH ?_ ?_ ?_)
  ·have bZ := (ak).f1
   exact ⟨b5, (Zv _), (bZ).f1, bn, c5, rfl, rfl, rfl, bo, bp, a8, rfl, rfl, rfl⟩
  ·intro ah ae dk dQ eu cl bL ap
   obtain ⟨aT, bd, al, aL, aM, ay, az, c6, aN, aO, aP, a0, a1, aj⟩ := bL
   refine Zc (Zd (Za rfl rfl (Zq rfl aj a1 (Zb (Ze (Zc (W_true (Zx (decide_eq_true (by omega))) (W_skip (Ze (Zc (W_block (Zc (Zd (Za rfl rfl (Zm (v := Vi ((ah : Int))) rfl aj ?_)))))))))))))))
   obtain ⟨du, a3, ap⟩ := Zg ap
   obtain ⟨dW, d6, aZ⟩ := (al).arr_at a3
   refine Za rfl rfl (Exec.index_slice S36 rfl (Eq.trans a0 aZ) aj (idx_some a3).1 (idx_some a3).2.1 (Za rfl rfl (Exec.load_arr (F := (encSlice (encInt .i64))) (al) aZ A24 rfl rfl rfl a3 (Sub.refl _) ?_)))
   intro bC cZ
   have dd : SliceRep _ _ _ (du) := encSlice_val.1 cZ
   refine Za rfl rfl (Zo (v := Vi ((ah : Int))) rfl rfl (Za rfl rfl (Zo (v := bC) rfl rfl (Zb (Ze ?_)))))
   obtain ⟨af, i, ap⟩ := Zg ap
   refine W_mid (M := fun f' w' => (fun (af : Bool) => ∃ (b7 : PHeap) , PHeap.le aT b7 ∧ St w0 b7 (Res.arr (encSlice (encInt .i64)) 24 a b :: Res.arr (encSlice (encInt .i64)) 24 g au :: H) w' ∧ f' 4 = a ∧ f' 7 = g ∧ f' 8 = Vi ((j : Int)) ∧ f' 9 = av ∧ f' 10 = Value.bool (af) ∧ f' 37 = a ∧ f' 38 = Vi ((b.length : Int)) ∧ f' 39 = Vi ((j : Int)) ∧ f' 44 = a ∧ f' 45 = Vi ((b.length : Int)) ∧ f' 46 = Vi ((ah : Int))) af) ?_ ?_
   ·refine Zd (Za rfl rfl (Zm (v := Value.bool (ae)) rfl c6 (Za rfl rfl (Zm (v := Value.bool (ae)) rfl rfl ?_))))
    rcases ite_some i with ⟨h, i⟩ | ⟨h, i⟩
    ·refine WL_passes 10 (by rw [h]; rfl) ?_
     refine Zb (Ze ?_)
     have dD := Zu i
     subst af
     exact ⟨aT, (Zv _), ((al).f1).f1, aL, aM, ay, az, rfl, aN, aO, aP, a0, a1, aj⟩
    replace h := Zk h
    refine WL_run rfl (Zf rfl (Zx h)) rfl (Zm (v := Vi ((j : Int))) rfl ay (WL_run rfl (Zf rfl (Zx h)) rfl (Zm (v := Vi ((ah : Int))) rfl rfl (WL_run rfl (Zf rfl (Zx h)) rfl (Exec.neq rfl rfl rfl (WL_run rfl (Zf rfl (Zx h)) rfl (Zm (v := Value.bool (!decide ((j : Int) = (ah : Int)))) rfl rfl ?_)))))))
    rcases ite_some i with ⟨u, i⟩ | ⟨u, i⟩
    ·refine WL_run rfl (Zf rfl (Zx u)) rfl (Zm (v := av) rfl az (WL_run rfl (Zf rfl (Zx u)) rfl (Zm (v := bC) rfl rfl ?_)))
     obtain ⟨d0, da, i⟩ := Zg i
     refine WL_run rfl (Zf rfl (Zx u)) rfl (Tc rfl rfl rfl (Zi rfl (Zi rfl args_nil)) (invariant_inside_sim da al (bv.mono bd) dd).r ?_)
     rintro _ ev ⟨dl, cq, ca, rfl⟩
     refine WL_run rfl (Zf rfl (Zx h)) rfl (Zs (v := Value.bool (d0)) rfl (Zx u) rfl ?_)
     refine WL_passes 2 (by rw [h]; rfl) ?_
     refine Zb (Ze ?_)
     have dE := Zu i
     subst af
     exact ⟨dl, cq, ((ca).f1).f1, aL, aM, ay, az, rfl, aN, aO, aP, a0, a1, aj⟩
    replace u := Zk u
    refine WL_passes 3 (by rw [u]; rfl) ?_
    refine WL_run rfl (Zf rfl (Zx h)) rfl (Exec.pick_f (v := Value.bool (false)) rfl rfl rfl ?_)
    refine WL_passes 2 (by rw [h]; rfl) ?_
    refine Zb (Ze ?_)
    have dF := Zu i
    subst af
    exact ⟨aT, (Zv _), ((al).f1).f1, aL, aM, ay, az, rfl, aN, aO, aP, a0, a1, aj⟩
   intro dR ew bQ
   obtain ⟨dm, cr, cb, c7, c8, c9, cA, cB, cC, cD, cE, cF, cG, cH⟩ := bQ
   refine (ib_normal (Ze (Zd (Za rfl rfl (Exec.add rfl cH rfl (Za rfl rfl (Zm (v := Vi (IntKind.i64.wrap ((ah : Int) + 1))) rfl rfl (Zb (Ze ?_)))))))))
   have dG := Zu ap
   subst dk
   exact ⟨dm, (Zt bd cr), ((cb).f1).f1, c7, c8, c9, cA, cB, cC, cD, cE, cF, cG, (Eq.trans rfl (wrap_up cl (ak).arr_le))⟩
  intro dS ex bM
  obtain ⟨b8, be, bc, bq, br, ec, cI, cJ, bs, bt, bu, ed, cK, dv⟩ := bM
  refine Zc (Zd (Za rfl rfl (Zq rfl dv cK (Zb (Ze (Zc (W_false (Zx (decide_eq_false (by omega))) (W_exit (at_exit (at_exit (ib_here (Ze (Zc (Zd (Za rfl rfl (Zm (v := Value.bool (ae)) rfl cJ (Za rfl rfl (Exec.not rfl rfl (Zb (Ze ?_))))))))))))))))))))
  obtain ⟨ar, l, z⟩ := Zg z
  refine W_mid (M := fun f' w' => (fun (ar : (List (List Int))) => ∃ (b9 : PHeap) (a6 : Value), PHeap.le b8 b9 ∧ St w0 b9 (Res.arr (encSlice (encInt .i64)) 24 a b :: Res.arr (encSlice (encInt .i64)) 24 a6 ar :: H) w' ∧ f' 4 = a ∧ f' 7 = a6 ∧ f' 37 = a ∧ f' 38 = Vi ((b.length : Int)) ∧ f' 39 = Vi ((j : Int))) ar) ?_ ?_
  ·rcases ite_some l with ⟨ao, l⟩ | ⟨ao, l⟩
   ·refine W_cond_t rfl ao (Zd (Za rfl rfl (Zm (v := g) rfl br (Za rfl rfl (Zm (v := av) rfl cI ?_)))))
    obtain ⟨d1, db, l⟩ := Zg l
    refine Za rfl rfl (Tc rfl rfl rfl (Zi rfl args_nil) (slices_Clone_int_sim db bc (bv.mono be)).r ?_)
    rintro aV ey ⟨eg, _, ct, cc, rfl⟩
    obtain ⟨dn, cu, cd, bw⟩ := cc.freezeArr
    refine Za rfl rfl (Exec.buildSlice (Te := 24) (cs := [aV]) cd rfl (parts_cons (c := [aV]) (cells_of rfl (cells_one (bw).one)) parts_nil) (fun _ => by kernel_rfl) ?_)
    intro d4 ez ce
    obtain ⟨dY, dc, l⟩ := Zg l
    refine Za rfl rfl (Exec.append_box (E := (encSlice (encInt .i64))) (ys := [d1]) (ce).f2 S36 Z24 rfl (by decide) rfl rfl rfl rfl ⟨[aV], [], rfl, ⟨_, rfl, bw⟩, rfl⟩ rfl dc ?_)
    intro bD e0 cf
    refine Za rfl rfl (Zo (v := bD) rfl rfl (Zb (Ze ?_)))
    have dH := Zu l
    subst ar
    exact ⟨dn, bD, (Zt ct cu), (cf).f1, bq, rfl, bs, bt, bu⟩
   refine W_cond_f rfl ao ?_
   replace ao := Zk ao
   refine W_skip (Ze ?_)
   have dI := Zu l
   subst ar
   exact ⟨b8, g, (Zv _), ((bc).f1).f1, bq, br, bs, bt, bu⟩
  intro dT e1 bR
  obtain ⟨dp, a6, cv, cg, cL, cM, cN, cO, cP⟩ := bR
  refine (ib_normal (Ze (Zd (Za rfl rfl (Exec.add rfl cP rfl (Za rfl rfl (Zm (v := Vi (IntKind.i64.wrap ((j : Int) + 1))) rfl rfl (Zb (Ze ?_)))))))))
  have dJ := Zu z
  subst dj
  exact ⟨dp, a6, (Zt (Zt cp be) cv), ((cg).f1).f1, cL, cM, cN, cO, (Eq.trans rfl (wrap_up ck ((aF).f1).arr_le))⟩
 intro dU e2 bN
 obtain ⟨eh, g, cw, ch, ee, cQ, ef, cR, dw⟩ := bN
 refine Zc (Zd (Za rfl rfl (Zq rfl dw cR (Zb (Ze (Zc (W_false (Zx (decide_eq_false (by omega))) (W_exit (at_exit (at_exit (ib_here (Ze (Zc (Zd (Za rfl rfl (Zm (v := g) rfl cQ (Za rfl rfl (Zo (v := g) rfl rfl (Za rfl rfl (Zo (v := errV 45 (none)) rfl rfl (Zb (Ze (W_ret ?_)))))))))))))))))))))))
 have dK := Zu hm
 subst r
 refine ⟨_, ret2 rfl, ?_⟩
 obtain ⟨dq, cx, ci, de⟩ := (ch).f1.freezeArr
 exact ⟨dq, g, (Zt (Zt (Zt (Zt d ai) co) cw) cx), (ci).drop, (tup2 rfl rfl), de⟩
theorem base_Ints_sim {w0 w : World} {s : PHeap} {H : List Res} {j : (List Int)} {q : (List Int)} {b : Value} {c : Value} {r : Bool} (hm : base_Ints_p j q = some r) (hS : St w0 s (H) w) (l : SliceRep (encInt .i64) s b j) (p : SliceRep (encInt .i64) s c q) :
  Calls Tryz.prog 22 #[b, c] w fun e w' => ∃ v, e = .returned v ∧ ((fun (a8 : Bool) => ∃ (ac : PHeap) , PHeap.le s ac ∧ St w0 ac (H) w' ∧ v = Value.bool (a8)) r) := by
 unfold base_Ints_p at hm
 refine calls_of_W Tryz.func22 rfl rfl (Zc (Zd (Za rfl rfl (Zo (v := Value.bool (false)) rfl rfl (Zb (Ze (Zc (Zc (Zd (Za rfl rfl (Zm (v := b) rfl rfl (Za rfl rfl (Zr S24 rfl rfl l (Za rfl rfl (Zm (v := c) rfl rfl (Za rfl rfl (Zr S24 rfl rfl p (Za rfl rfl (Exec.neq rfl rfl rfl (Zb (Ze ?_)))))))))))))))))))))
 rcases ite_some hm with ⟨d, hm⟩ | ⟨d, hm⟩
 ·refine W_cond_t rfl d (Zc (Zd (Za rfl rfl (Zo (v := Value.bool (false)) rfl rfl (Zb (Ze (W_ret (at_ret ?_))))))))
  have aB := Zu hm
  subst r
  refine ⟨_, ret1 rfl, ?_⟩
  exact ⟨s, (Zv _), hS, rfl⟩
 refine W_cond_f rfl d ?_
 replace d := Zk d
 refine W_skip (Ze (Zc (Zc (Zd (Za rfl rfl (Zm (v := b) rfl rfl (Za rfl rfl (Zr S24 rfl rfl l (Za rfl rfl (Zm (v := Vi (0)) rfl rfl (Zb (Ze ?_))))))))))))
 obtain ⟨t, ai, au, aq, ao⟩ := ctl_some hm
 refine W_mid (M := fun f' w' => ∃ s', (t = .next s' ∨ t = .brk s') ∧ (fun (_ : Unit) => ∃ (ad : PHeap) , PHeap.le s ad ∧ St w0 ad (H) w' ∧ f' 0 = b ∧ f' 1 = c ∧ f' 12 = Vi ((j.length : Int))) s') ?_ ?_
 ·refine W_block (W_forC (fun k' s' f' w' => (fun (_ : Unit) => ∃ (ae : PHeap) , PHeap.le s ae ∧ St w0 ae (H) w' ∧ f' 0 = b ∧ f' 1 = c ∧ f' 12 = Vi ((j.length : Int)) ∧ f' 13 = Vi (k' : Int)) s') ai ?_ ?_ ?_)
  ·exact ⟨s, (Zv _), hS, rfl, rfl, rfl, rfl⟩
  ·intro i aQ u aI aV ap aj a av
   obtain ⟨af, n, m, y, z, aa, o⟩ := aj
   refine Zc (Zd (Za rfl rfl (Zq rfl o aa (Zb (Ze (Zc (W_true (Zx (decide_eq_true (by omega))) (W_skip (Ze (Zc (W_block (Zc (Zd (Za rfl rfl (Zm (v := Vi ((i : Int))) rfl o (Za rfl rfl (Zo (v := Vi ((i : Int))) rfl rfl (Zb (Ze (Zc (W_dl (n0 := 9) (qs 0 9 .done) hmix (by kernel_rfl) (by kernel_rfl) (DL_q rfl rfl (Zm (v := b) rfl y ⟨rfl, ?_⟩)))))))))))))))))))))))
   refine DL_q rfl rfl (Zm (v := Vi ((i : Int))) rfl rfl ⟨rfl, ?_⟩)
   obtain ⟨aY, a1, a⟩ := Zg a
   refine DL_q rfl rfl (Exec.index_repE S24 rfl rfl rfl (l.mono n) a1 ?_)
   intro a9 aL ag aC
   refine ⟨rfl, ?_⟩
   refine DL_q rfl rfl (Zw (E := (encInt .i64)) m.drew A3 rfl rfl rfl ag ?_)
   intro aT a2
   obtain rfl := encInt_val.1 a2
   refine ⟨rfl, ?_⟩
   refine DL_q rfl rfl (Zm (v := c) rfl z ⟨rfl, ?_⟩)
   refine DL_q rfl rfl (Zm (v := Vi ((i : Int))) rfl rfl ⟨rfl, ?_⟩)
   obtain ⟨aZ, a3, a⟩ := Zg a
   refine DL_q rfl rfl (Exec.index_repE S24 rfl rfl rfl (p.mono n) a3 ?_)
   intro aA aM ah aD
   refine ⟨rfl, ?_⟩
   refine DL_q rfl rfl (Zw (E := (encInt .i64)) m.drew A3 rfl rfl rfl ah ?_)
   intro aU a4
   obtain rfl := encInt_val.1 a4
   refine ⟨rfl, ?_⟩
   refine DL_q rfl rfl (Exec.neq rfl rfl rfl ⟨rfl, ?_⟩)
   refine DL_done (Zb (Ze ?_))
   rcases ite_some a with ⟨g, a⟩ | ⟨g, a⟩
   ·refine W_cond_t rfl g (Zc (Zd (Za rfl rfl (Zo (v := Value.bool (false)) rfl rfl (Zb (Ze (W_ret (ib_ret (at_ret (at_ret (ib_ret (at_ret (at_ret ?_)))))))))))))
    have aE := Zu a
    subst u
    have ar := au _ (av (by intro _ h; cases h))
    have aF := Zu ar
    subst r
    refine ⟨_, ret1 rfl, ?_⟩
    exact ⟨af, n, m.drew, rfl⟩
   refine W_cond_f rfl g ?_
   replace g := Zk g
   refine W_skip (ib_normal (Ze (Zd (Za rfl rfl (Exec.add rfl o rfl (Za rfl rfl (Zm (v := Vi (IntKind.i64.wrap ((i : Int) + 1))) rfl rfl (Zb (Ze ?_)))))))))
   have aG := Zu a
   subst u
   refine ⟨_, rfl, ?_⟩; exact ⟨af, n, m.drew, y, z, aa, (Eq.trans rfl (wrap_up ap (SliceRep.le l)))⟩
  intro aR aJ aW ak aw
  obtain ⟨a5, ax, am, az, a0, ab, a7⟩ := ak
  refine Zc (Zd (Za rfl rfl (Zq rfl a7 ab (Zb (Ze (Zc (W_false (Zx (decide_eq_false (by omega))) (W_exit (at_exit (at_exit (ib_here (Ze ?_))))))))))))
  refine ⟨_, .inl aw, ?_⟩; exact ⟨a5, ax, am, az, a0, ab⟩
 rintro aK aX ⟨aS, x, al⟩
 have hm := x.elim (aq _) (ao _)
 clear x
 obtain ⟨a6, ay, an, aN, aO, aP⟩ := al
 refine (Ze (Zc (Zd (Za rfl rfl (Zo (v := Value.bool (true)) rfl rfl (Zb (Ze (W_ret ?_))))))))
 have aH := Zu hm
 subst r
 refine ⟨_, ret1 rfl, ?_⟩
 exact ⟨a6, ay, an, rfl⟩
theorem invariant_Balanced_sim {w0 w : World} {s : PHeap} {H : List Res} {fu : Nat} {d : Ground} {x : (List Int)} {g : Value} {h : Value} {i : Value} {j : Value} {k : Value} {n : Value} {r : Bool} (hm : invariant_Balanced_p fu d x = some r) (hS : St w0 s (H) w) (o : SliceRep encAtom s g d.Atoms) (p : SliceRep encGFluent s h d.Fluents) (q : SliceRep (encInt .i64) s i d.Init) (t : SliceRep encCond s j d.Goal) (u : SliceRep encGOp s k d.Ops) (ab : SliceRep (encInt .i64) s n x) :
  Calls Tryz.prog 11 #[Value.agg #[g, h, i, j, k], n] w fun e w' => ∃ v, e = .returned v ∧ ((fun (an : Bool) => ∃ (z : PHeap) , PHeap.le s z ∧ St w0 z (H) w' ∧ v = Value.bool (an)) r) := by
 unfold invariant_Balanced_p at hm
 refine calls_of_W Tryz.func11 rfl rfl (Zc (Zd (Za rfl rfl (Exec.box (cs := [g, h, i, j, k]) hS rfl rfl rfl ?_))))
 intro ap aw y
 refine Za rfl rfl (Zo (v := Value.bool (false)) rfl rfl (Zb (Ze (Zc ?_))))
 obtain ⟨l, a, hm⟩ := Zg hm
 refine W_mid (M := fun f' w' => (fun (l : Bool) => ∃ (aa : PHeap) , PHeap.le s aa ∧ St w0 aa (H) w' ∧ f' 4 = Value.bool (l)) l) ?_ ?_
 ·refine Zd (Za rfl rfl (Exec.load_box_agg (ds := [g, h, i, j, k]) (y) A28 rfl rfl rfl ?_))
  obtain ⟨ao, ai, a⟩ := Zg a
  refine Za rfl rfl (Tc rfl rfl rfl (Zi rfl args_nil) (ground_Valid_sim ai y o p q t u).r ?_)
  rintro _ ax ⟨ak, c, m, rfl⟩
  refine Za rfl rfl (Zm (v := Value.bool (ao)) rfl rfl ?_)
  rcases ite_some a with ⟨b, a⟩ | ⟨b, a⟩
  ·refine WL_run rfl (Zf rfl (Zx b)) rfl (Exec.load_box_agg (ds := [g, h, i, j, k]) (m) A28 rfl rfl rfl (WL_run rfl (Zf rfl (Zx b)) rfl (Zm (v := n) rfl rfl ?_)))
   obtain ⟨a0, aj, a⟩ := Zg a
   refine WL_run rfl (Zf rfl (Zx b)) rfl (Tc rfl rfl rfl (Zi rfl (Zi rfl args_nil)) (invariant_balanced_sim aj m (o.mono c) (p.mono c) (q.mono c) (t.mono c) (u.mono c) (ab.mono c)).r ?_)
   rintro _ ay ⟨al, af, ad, rfl⟩
   refine WL_passes 2 (by rw [b]; rfl) ?_
   refine Zb (Ze ?_)
   have aq := Zu a
   subst l
   exact ⟨al, (Zt c af), (ad).drop, rfl⟩
  replace b := Zk b
  refine WL_passes 5 (by rw [b]; rfl) ?_
  refine Zb (Ze ?_)
  have ar := Zu a
  subst l
  exact ⟨ak, c, (m).drop, rfl⟩
 intro av az ac
 obtain ⟨am, ag, ae, ah⟩ := ac
 refine (Ze (W_ret ?_))
 have au := Zu hm
 subst r
 refine ⟨_, ret1 rfl, ?_⟩
 exact ⟨am, ag, ae, ah⟩
theorem law20_awake_sim {w0 w : World} {s : PHeap} {H : List Res} {fu : Nat}  {r : Bool} (hm : law20_awake_p fu = some r) (hS : St w0 s (H) w)  (ht : TabQ Tryz.prog s) :
  Calls Tryz.prog 9 #[] w fun e w' => ∃ v, e = .returned v ∧ ((fun (y24 : Bool) => ∃ (aa : PHeap) , PHeap.le s aa ∧ St w0 aa (H) w' ∧ v = Value.bool (y24)) r) := by
 unfold law20_awake_p at hm
 refine calls_of_W Tryz.func9 rfl rfl (Zc (Zd (Za rfl rfl (Zo (v := Value.bool (false)) rfl rfl (Zb (Ze (Zc (Zd ?_))))))))
 obtain ⟨bB, az, hm⟩ := Zg hm
 refine Za rfl rfl (Tc rfl rfl rfl args_nil (law20_example_sim az hS ).r ?_)
 rintro _ b1 ⟨bj, bo, bp, bq, br, bs, y, af, rfl, a9, aA, aB, aC, aD⟩
 obtain ⟨aS, a0, hm⟩ := Zg hm
 obtain ⟨bC, m⟩ := aS
 replace hm := un2_eq hm
 refine Za rfl rfl (Tc rfl rfl rfl (Zi rfl args_nil) (invariant_Groups_sim a0 af a9 aA aB aC aD (ht.mono y)).r ?_)
 rintro _ b2 ⟨u, k, au, n, rfl, t⟩
 refine Za rfl rfl (Zm (v := Value.tuple #[k, errV 45 (m)]) rfl rfl (Za rfl rfl (Exec.extract (v := k) rfl rfl rfl (Za rfl rfl (Exec.extract (v := errV 45 (m)) rfl rfl rfl (Za rfl rfl (Zo (v := k) rfl rfl (Za rfl rfl (Zo (v := errV 45 (m)) rfl rfl (Zb (Ze (Zc ?_))))))))))))
 obtain ⟨i, a, hm⟩ := Zg hm
 refine W_mid (M := fun f' w' => (fun (i : Bool) => ∃ (ab : PHeap) , PHeap.le u ab ∧ St w0 ab (H) w' ∧ f' 0 = Value.bool (i)) i) ?_ ?_
 ·refine Zd (Za rfl rfl (Zm (v := errV 45 (m)) rfl rfl (Za rfl rfl (Exec.err_eql_nil (T := 45) Tryz.underlying38 rfl rfl rfl (Za rfl rfl (Zm (v := Value.bool (m.isNone)) rfl rfl ?_))))))
  rcases ite_some a with ⟨h, a⟩ | ⟨h, a⟩
  ·refine WL_run rfl (Zf rfl (Zx h)) rfl (Zm (v := k) rfl rfl (WL_run rfl (Zf rfl (Zx h)) rfl (Zr S36 rfl rfl t (WL_run rfl (Zf rfl (Zx h)) rfl (Exec.eql rfl rfl rfl ?_)))))
   refine WL_passes 2 (by rw [h]; rfl) ?_
   rcases ite_some a with ⟨b, a⟩ | ⟨b, a⟩
   ·refine WL_run rfl (Zf rfl (Zx b)) rfl (Zm (v := k) rfl rfl ?_)
    obtain ⟨aT, a1, a⟩ := Zg a
    refine WL_run rfl (Zf rfl (Zx b)) rfl (Exec.index_rep S36 rfl rfl rfl t a1 ?_)
    intro aV bh ac
    refine WL_run rfl (Zf rfl (Zx b)) rfl (Zw (E := (encSlice (encInt .i64))) n A24 rfl rfl rfl ac ?_)
    intro bt a2
    have aE : SliceRep _ _ _ (aT) := encSlice_val.1 a2
    refine WL_run rfl (Zf rfl (Zx b)) rfl (Exec.buildSlice (Te := 3) (cs := [Vi (0), Vi (1)]) n rfl (parts_cons (c := [Vi (0)]) (cells_of rfl rfl) (parts_cons (c := [Vi (1)]) (cells_of rfl rfl) parts_nil)) (fun _ => by kernel_rfl) ?_)
    intro aW b3 ag
    have ah := St.boxArr (E := (encInt .i64)) (xs := [0, 1]) ag ⟨[Vi (0)], [Vi (1)], rfl, rfl, ⟨[Vi (1)], [], rfl, rfl, rfl⟩⟩ (by simp [maxLen])
    obtain ⟨bk, l, ai, aF⟩ := ah.freezeArr
    obtain ⟨bD, a3, a⟩ := Zg a
    refine WL_run rfl (Zf rfl (Zx b)) rfl (Tc rfl rfl rfl (Zi rfl (Zi rfl args_nil)) (base_Ints_sim a3 ai (aE.mono l) aF).r ?_)
    rintro _ b4 ⟨aO, o, p, rfl⟩
    refine WL_passes 2 (by rw [b]; rfl) ?_
    rcases ite_some a with ⟨d, a⟩ | ⟨d, a⟩
    ·refine WL_run rfl (Zf rfl (Zx d)) rfl (Zm (v := k) rfl rfl ?_)
     obtain ⟨aU, a4, a⟩ := Zg a
     refine WL_run rfl (Zf rfl (Zx d)) rfl (Exec.index_rep S36 rfl rfl rfl (t.mono (Zt l o)) a4 ?_)
     intro aX bi ad
     refine WL_run rfl (Zf rfl (Zx d)) rfl (Zw (E := (encSlice (encInt .i64))) p A24 rfl rfl rfl ad ?_)
     intro bu a5
     have aG : SliceRep _ _ _ (aU) := encSlice_val.1 a5
     refine WL_run rfl (Zf rfl (Zx d)) rfl (Exec.buildSlice (Te := 3) (cs := [Vi (2), Vi (3)]) p rfl (parts_cons (c := [Vi (2)]) (cells_of rfl rfl) (parts_cons (c := [Vi (3)]) (cells_of rfl rfl) parts_nil)) (fun _ => by kernel_rfl) ?_)
     intro aY b5 aj
     have ak := St.boxArr (E := (encInt .i64)) (xs := [2, 3]) aj ⟨[Vi (2)], [Vi (3)], rfl, rfl, ⟨[Vi (3)], [], rfl, rfl, rfl⟩⟩ (by simp [maxLen])
     obtain ⟨bl, q, al, aH⟩ := ak.freezeArr
     obtain ⟨bE, a6, a⟩ := Zg a
     refine WL_run rfl (Zf rfl (Zx d)) rfl (Tc rfl rfl rfl (Zi rfl (Zi rfl args_nil)) (base_Ints_sim a6 al (aG.mono q) aH).r ?_)
     rintro _ b6 ⟨aP, z, x, rfl⟩
     refine WL_passes 2 (by rw [d]; rfl) ?_
     rcases ite_some a with ⟨g, a⟩ | ⟨g, a⟩
     ·obtain ⟨bF, a7, a⟩ := Zg a
      refine WL_run rfl (Zf rfl (Zx g)) rfl (Tc rfl rfl rfl args_nil (law20_example_sim a7 x ).r ?_)
      rintro _ b7 ⟨bm, bv, bw, bx, bz, b0, av, am, rfl, aI, aJ, aK, aL, aM⟩
      refine WL_run rfl (Zf rfl (Zx g)) rfl (Exec.buildSlice (Te := 3) (cs := [Vi (0), Vi (2)]) am rfl (parts_cons (c := [Vi (0)]) (cells_of rfl rfl) (parts_cons (c := [Vi (2)]) (cells_of rfl rfl) parts_nil)) (fun _ => by kernel_rfl) ?_)
      intro aZ b8 an
      have ao := St.boxArr (E := (encInt .i64)) (xs := [0, 2]) an ⟨[Vi (0)], [Vi (2)], rfl, rfl, ⟨[Vi (2)], [], rfl, rfl, rfl⟩⟩ (by simp [maxLen])
      obtain ⟨bn, j, ap, aN⟩ := ao.freezeArr
      obtain ⟨bG, a8, a⟩ := Zg a
      refine WL_run rfl (Zf rfl (Zx g)) rfl (Tc rfl rfl rfl (Zi rfl (Zi rfl args_nil)) (invariant_Balanced_sim a8 ap (aI.mono j) (aJ.mono j) (aK.mono j) (aL.mono j) (aM.mono j) aN).r ?_)
      rintro _ b9 ⟨aQ, aw, aq, rfl⟩
      refine WL_run rfl (Zf rfl (Zx g)) rfl (Exec.not rfl rfl ?_)
      refine WL_passes 2 (by rw [g]; rfl) ?_
      refine Zb (Ze ?_)
      have ba := Zu a
      subst i
      exact ⟨aQ, (Zt (Zt (Zt (Zt (Zt (Zt l o) q) z) av) j) aw), aq, rfl⟩
     replace g := Zk g
     refine WL_passes 6 (by rw [g]; rfl) ?_
     refine Zb (Ze ?_)
     have bb := Zu a
     subst i
     exact ⟨aP, (Zt (Zt (Zt l o) q) z), x, rfl⟩
    replace d := Zk d
    refine WL_passes 13 (by rw [d]; rfl) ?_
    refine Zb (Ze ?_)
    have bc := Zu a
    subst i
    exact ⟨aO, (Zt l o), p, rfl⟩
   replace b := Zk b
   refine WL_passes 20 (by rw [b]; rfl) ?_
   refine Zb (Ze ?_)
   have bd := Zu a
   subst i
   exact ⟨u, (Zv _), n, rfl⟩
  replace h := Zk h
  refine WL_passes 25 (by rw [h]; rfl) ?_
  refine Zb (Ze ?_)
  have be := Zu a
  subst i
  exact ⟨u, (Zv _), n, rfl⟩
 intro bg bA ae
 obtain ⟨aR, ax, ar, ay⟩ := ae
 refine (Ze (W_ret ?_))
 have bf := Zu hm
 subst r
 refine ⟨_, ret1 rfl, ?_⟩
 exact ⟨aR, (Zt (Zt y au) ax), ar, ay⟩
theorem law20_few_sim {w0 w : World} {s : PHeap} {H : List Res} {fu : Nat} {a : Ground} {g : Value} {n : Value} {o : Value} {p : Value} {i : Value} {r : Bool} (hm : law20_few_p fu a = some r) (hS : St w0 s (H) w) (y : SliceRep encAtom s g a.Atoms) (an : SliceRep encGFluent s n a.Fluents) (aR : SliceRep (encInt .i64) s o a.Init) (ao : SliceRep encCond s p a.Goal) (z : SliceRep encGOp s i a.Ops) :
  Calls Tryz.prog 10 #[Value.agg #[g, n, o, p, i]] w fun e w' => ∃ v, e = .returned v ∧ ((fun (bN : Bool) => ∃ (aC : PHeap) , PHeap.le s aC ∧ St w0 aC (H) w' ∧ v = Value.bool (bN)) r) := by
 unfold law20_few_p at hm
 refine calls_of_W Tryz.func10 rfl rfl (Zc (Zd (Za rfl rfl (Exec.box (cs := [g, n, o, p, i]) hS rfl rfl rfl ?_))))
 intro j cy q
 refine Za rfl rfl (Zo (v := Value.bool (false)) rfl rfl (Zb (Ze (Zc (Zc (W_mid (M := fun f' w' => ∃ (aD : PHeap) , PHeap.le s aD ∧ St w0 aD (Res.box j 28 [g, n, o, p, i] :: H) w' ∧ f' 1 = Value.pointer (some ⟨j, 0, none⟩) ∧ f' 28 = Value.bool (((decide (14 < (a.Atoms.length : Int))) || ((decide (8 < (a.Ops.length : Int))) || ((decide (3 < (a.Fluents.length : Int))) || decide (4 < (a.Goal.length : Int))))))) ?_ ?_))))))
 ·refine Zd (Za rfl rfl (Zp F28_0 rfl rfl rfl (Za rfl rfl (Zn (q) A22 rfl rfl rfl (Za rfl rfl (Zr S22 rfl rfl y (Za rfl rfl (Exec.gtr rfl rfl rfl (Za rfl rfl (Zm (v := Value.bool (decide (14 < (a.Atoms.length : Int)))) rfl rfl ?_))))))))))
  by_cases c : (decide (14 < (a.Atoms.length : Int))) = true
  ·refine WL_passes 17 (by rw [c]; rfl) ?_
   refine Zb (Ze ?_)
   exact ⟨s, (Zv _), q, rfl, (Zx (or_t c)).symm⟩
  replace c := Zk c
  refine WL_run rfl (Zf rfl (Zx c)) rfl (Zp F28_4 rfl rfl rfl (WL_run rfl (Zf rfl (Zx c)) rfl (Zn (q) A26 rfl rfl rfl (WL_run rfl (Zf rfl (Zx c)) rfl (Zr S26 rfl rfl z (WL_run rfl (Zf rfl (Zx c)) rfl (Exec.gtr rfl rfl rfl ?_)))))))
  refine WL_passes 2 (by rw [c]; rfl) ?_
  by_cases d : (decide (8 < (a.Ops.length : Int))) = true
  ·refine WL_passes 11 (by rw [d]; rfl) ?_
   refine Zb (Ze ?_)
   exact ⟨s, (Zv _), q, rfl, (Zx (Eq.trans (or_f c) (or_t d))).symm⟩
  replace d := Zk d
  refine WL_run rfl (Zf rfl (Zx d)) rfl (Zp F28_1 rfl rfl rfl (WL_run rfl (Zf rfl (Zx d)) rfl (Zn (q) A23 rfl rfl rfl (WL_run rfl (Zf rfl (Zx d)) rfl (Zr S23 rfl rfl an (WL_run rfl (Zf rfl (Zx d)) rfl (Exec.gtr rfl rfl rfl ?_)))))))
  refine WL_passes 2 (by rw [d]; rfl) ?_
  by_cases l : (decide (3 < (a.Fluents.length : Int))) = true
  ·refine WL_passes 5 (by rw [l]; rfl) ?_
   refine Zb (Ze ?_)
   exact ⟨s, (Zv _), q, rfl, (Zx (Eq.trans (or_f c) (Eq.trans (or_f d) (or_t l)))).symm⟩
  replace l := Zk l
  refine WL_run rfl (Zf rfl (Zx l)) rfl (Zp F28_3 rfl rfl rfl (WL_run rfl (Zf rfl (Zx l)) rfl (Zn (q) A25 rfl rfl rfl (WL_run rfl (Zf rfl (Zx l)) rfl (Zr S25 rfl rfl ao (WL_run rfl (Zf rfl (Zx l)) rfl (Exec.gtr rfl rfl rfl (Za rfl rfl (Exec.pick_f (v := Value.bool (decide (4 < (a.Goal.length : Int)))) rfl (Zx l) rfl (Zb (Ze ?_)))))))))))
  exact ⟨s, (Zv _), q, rfl, (Zx (Eq.trans (or_f c) (Eq.trans (or_f d) (or_f l)))).symm⟩
 intro cb cz ba
 obtain ⟨ad, b, af, a1, a2⟩ := ba
 refine (Ze ?_)
 rcases ite_some hm with ⟨aa, hm⟩ | ⟨aa, hm⟩
 ·refine W_cond_t a2 aa (Zc (Zd (Za rfl rfl (Zo (v := Value.bool (false)) rfl rfl (Zb (Ze (W_ret (at_ret ?_))))))))
  have bT := Zu hm
  subst r
  refine ⟨_, ret1 rfl, ?_⟩
  exact ⟨ad, b, (af).drop, rfl⟩
 refine W_cond_f a2 aa ?_
 replace aa := Zk aa
 refine W_skip (Ze (Zc (Zc (Zd (Za rfl rfl (Zp F28_0 rfl a1 rfl (Za rfl rfl (Zn (af) A22 rfl rfl rfl (Za rfl rfl (Zr S22 rfl rfl (y.mono b) (Za rfl rfl (Zm (v := Vi (0)) rfl rfl (Zb (Ze ?_))))))))))))))
 obtain ⟨ap, aU, bq, bm, bi⟩ := ctl_some hm
 refine W_mid (M := fun f' w' => ∃ s', (ap = .next s' ∨ ap = .brk s') ∧ (fun (_ : Unit) => ∃ (aE : PHeap) , PHeap.le ad aE ∧ St w0 aE (Res.box j 28 [g, n, o, p, i] :: H) w' ∧ f' 1 = Value.pointer (some ⟨j, 0, none⟩) ∧ f' 30 = g ∧ f' 31 = Vi ((a.Atoms.length : Int))) s') ?_ ?_
 ·refine W_block (W_forC (fun k' s' f' w' => (fun (_ : Unit) => ∃ (aF : PHeap) , PHeap.le ad aF ∧ St w0 aF (Res.box j 28 [g, n, o, p, i] :: H) w' ∧ f' 1 = Value.pointer (some ⟨j, 0, none⟩) ∧ f' 30 = g ∧ f' 31 = Vi ((a.Atoms.length : Int)) ∧ f' 32 = Vi (k' : Int)) s') aU ?_ ?_ ?_)
  ·exact ⟨ad, (Zv _), af, a1, rfl, rfl, rfl⟩
  ·intro bw cp aq cc c0 bk aW t bs
   obtain ⟨aG, ai, av, b2, a3, a4, al⟩ := aW
   refine Zc (Zd (Za rfl rfl (Zq rfl al a4 (Zb (Ze (Zc (W_true (Zx (decide_eq_true (by omega))) (W_skip (Ze (Zc (W_block (Zc (Zd ?_)))))))))))))
   obtain ⟨aQ, b9, t⟩ := Zg t
   refine Za rfl rfl (Exec.index_rep S22 rfl a3 al (y.mono (Zt b ai)) b9 ?_)
   intro bP ci aS
   refine Za rfl rfl (Zw (E := encAtom) av A56 rfl rfl rfl aS ?_)
   intro cw bA
   obtain ⟨aK, rfl, aA⟩ := encAtom_val.1 bA
   refine Za rfl rfl (Exec.alloc (cs := [Value.string (⟨#[]⟩), Value.slice none 0 0]) av Z56 rfl rfl ?_)
   intro bQ c1 bd
   refine Za rfl rfl (Exec.store_box (ds := [Value.string (aQ.Name), aK]) (es := [Value.string (aQ.Name), aK]) bd A56 rfl rfl rfl rfl (Zj rfl (Zj (aA).one one_nil)) (Nat.le_of_ble_eq_true rfl) rfl ?_)
   intro c2 ag
   refine Zb (Ze (Zc (Zd (Za rfl rfl (Zp F56_1 rfl rfl rfl (Za rfl rfl (Zn (ag) A54 rfl rfl rfl (Za rfl rfl (Zr S54 rfl rfl aA (Za rfl rfl (Exec.gtr rfl rfl rfl (Zb (Ze ?_)))))))))))))
   rcases ite_some t with ⟨ab, t⟩ | ⟨ab, t⟩
   ·refine W_cond_t rfl ab (Zc (Zd (Za rfl rfl (Zo (v := Value.bool (false)) rfl rfl (Zb (Ze (W_ret (ib_ret (at_ret (at_ret (ib_ret (at_ret (at_ret ?_)))))))))))))
    have bU := Zu t
    subst aq
    have bo := bq _ (bs (by intro _ h; cases h))
    have bV := Zu bo
    subst r
    refine ⟨_, ret1 rfl, ?_⟩
    exact ⟨aG, (Zt b ai), ((ag).drop).drop, rfl⟩
   refine W_cond_f rfl ab ?_
   replace ab := Zk ab
   refine W_skip (ib_normal (Ze (Zd (Za rfl rfl (Exec.add rfl al rfl (Za rfl rfl (Zm (v := Vi (IntKind.i64.wrap ((bw : Int) + 1))) rfl rfl (Zb (Ze ?_)))))))))
   have bW := Zu t
   subst aq
   refine ⟨_, rfl, ?_⟩; exact ⟨aG, ai, (ag).drop, b2, a3, a4, (Eq.trans rfl (wrap_up bk (SliceRep.le (y.mono b))))⟩
  intro cq cd c3 aX bt
  obtain ⟨bI, bz, be, b3, b4, a5, bL⟩ := aX
  refine Zc (Zd (Za rfl rfl (Zq rfl bL a5 (Zb (Ze (Zc (W_false (Zx (decide_eq_false (by omega))) (W_exit (at_exit (at_exit (ib_here (Ze ?_))))))))))))
  refine ⟨_, .inl bt, ?_⟩; exact ⟨bI, bz, be, b3, b4, a5⟩
 rintro ce c4 ⟨cr, az, bb⟩
 have hm := az.elim (bm _) (bi _)
 clear az
 obtain ⟨ak, m, aw, a6, ck, cl⟩ := bb
 refine (Ze (Zc (Zc (Zd (Za rfl rfl (Zp F28_4 rfl a6 rfl (Za rfl rfl (Zn (aw) A26 rfl rfl rfl (Za rfl rfl (Zr S26 rfl rfl (z.mono (Zt b m)) (Za rfl rfl (Zm (v := Vi (0)) rfl rfl (Zb (Ze ?_))))))))))))))
 obtain ⟨ar, aV, br, bn, bj⟩ := ctl_some hm
 refine W_mid (M := fun f' w' => ∃ s', (ar = .next s' ∨ ar = .brk s') ∧ (fun (_ : Unit) => ∃ (aH : PHeap) , PHeap.le ak aH ∧ St w0 aH (Res.box j 28 [g, n, o, p, i] :: H) w' ∧ f' 1 = Value.pointer (some ⟨j, 0, none⟩) ∧ f' 42 = i ∧ f' 43 = Vi ((a.Ops.length : Int))) s') ?_ ?_
 ·refine W_block (W_forC (fun k' s' f' w' => (fun (_ : Unit) => ∃ (aI : PHeap) , PHeap.le ak aI ∧ St w0 aI (Res.box j 28 [g, n, o, p, i] :: H) w' ∧ f' 1 = Value.pointer (some ⟨j, 0, none⟩) ∧ f' 42 = i ∧ f' 43 = Vi ((a.Ops.length : Int)) ∧ f' 44 = Vi (k' : Int)) s') aV ?_ ?_ ?_)
  ·exact ⟨ak, (Zv _), aw, a6, rfl, rfl, rfl⟩
  ·intro bx ct au cf c5 bl aY u bu
   obtain ⟨aJ, aj, ax, b5, a7, a8, am⟩ := aY
   refine Zc (Zd (Za rfl rfl (Zq rfl am a8 (Zb (Ze (Zc (W_true (Zx (decide_eq_true (by omega))) (W_skip (Ze (Zc (W_block (Zc (Zd ?_)))))))))))))
   obtain ⟨ae, bB, u⟩ := Zg u
   refine Za rfl rfl (Exec.index_rep S26 rfl a7 am (z.mono (Zt (Zt b m) aj)) bB ?_)
   intro bR cj aT
   refine Za rfl rfl (Zw (E := encGOp) ax A63 rfl rfl rfl aT ?_)
   intro cx bC
   obtain ⟨aL, aM, aN, aO, aP, rfl, bE, bF, bG, aB, bH⟩ := encGOp_val.1 bC
   refine Za rfl rfl (Exec.alloc (cs := [Value.string (⟨#[]⟩), Vi (0), Value.slice none 0 0, Value.slice none 0 0, Value.slice none 0 0, Value.slice none 0 0, Value.slice none 0 0]) ax Z63 rfl rfl ?_)
   intro bS c6 bf
   refine Za rfl rfl (Exec.store_box (ds := [Value.string (ae.Name), Vi (ae.Cost), aL, aM, aN, aO, aP]) (es := [Value.string (ae.Name), Vi (ae.Cost), aL, aM, aN, aO, aP]) bf A63 rfl rfl rfl rfl (Zj rfl (Zj rfl (Zj (bE).one (Zj (bF).one (Zj (bG).one (Zj (aB).one (Zj (bH).one one_nil))))))) (Nat.le_of_ble_eq_true rfl) rfl ?_)
   intro c7 ah
   refine Zb (Ze (Zc (Zd (Za rfl rfl (Zp F63_3 rfl rfl rfl (Za rfl rfl (Zn (ah) A60 rfl rfl rfl (Za rfl rfl (Zr S60 rfl rfl aB (Za rfl rfl (Exec.gtr rfl rfl rfl (Zb (Ze ?_)))))))))))))
   rcases ite_some u with ⟨ac, u⟩ | ⟨ac, u⟩
   ·refine W_cond_t rfl ac (Zc (Zd (Za rfl rfl (Zo (v := Value.bool (false)) rfl rfl (Zb (Ze (W_ret (ib_ret (at_ret (at_ret (ib_ret (at_ret (at_ret ?_)))))))))))))
    have bX := Zu u
    subst au
    have bp := br _ (bu (by intro _ h; cases h))
    have bY := Zu bp
    subst r
    refine ⟨_, ret1 rfl, ?_⟩
    exact ⟨aJ, (Zt (Zt b m) aj), ((ah).drop).drop, rfl⟩
   refine W_cond_f rfl ac ?_
   replace ac := Zk ac
   refine W_skip (ib_normal (Ze (Zd (Za rfl rfl (Exec.add rfl am rfl (Za rfl rfl (Zm (v := Vi (IntKind.i64.wrap ((bx : Int) + 1))) rfl rfl (Zb (Ze ?_)))))))))
   have bZ := Zu u
   subst au
   refine ⟨_, rfl, ?_⟩; exact ⟨aJ, aj, (ah).drop, b5, a7, a8, (Eq.trans rfl (wrap_up bl (SliceRep.le (z.mono (Zt b m)))))⟩
  intro cu cg c8 aZ bv
  obtain ⟨bJ, b0, bg, b6, b7, a9, bM⟩ := aZ
  refine Zc (Zd (Za rfl rfl (Zq rfl bM a9 (Zb (Ze (Zc (W_false (Zx (decide_eq_false (by omega))) (W_exit (at_exit (at_exit (ib_here (Ze ?_))))))))))))
  refine ⟨_, .inl bv, ?_⟩; exact ⟨bJ, b0, bg, b6, b7, a9⟩
 rintro ch c9 ⟨cv, a0, bc⟩
 have hm := a0.elim (bn _) (bj _)
 clear a0
 obtain ⟨co, x, ay, b8, cm, cn⟩ := bc
 refine (Ze (Zc (Zd (Za rfl rfl (Exec.load_box_agg (ds := [g, n, o, p, i]) (ay) A28 rfl b8 rfl ?_)))))
 obtain ⟨bO, bD, hm⟩ := Zg hm
 refine Za rfl rfl (Tc rfl rfl rfl (Zi rfl args_nil) (ground_Valid_sim bD ay (y.mono (Zt (Zt b m) x)) (an.mono (Zt (Zt b m) x)) (aR.mono (Zt (Zt b m) x)) (ao.mono (Zt (Zt b m) x)) (z.mono (Zt (Zt b m) x))).r ?_)
 rintro _ cA ⟨bK, b1, bh, rfl⟩
 refine Za rfl rfl (Zo (v := Value.bool (bO)) rfl rfl (Zb (Ze (W_ret ?_))))
 have ca := Zu hm
 subst r
 refine ⟨_, ret1 rfl, ?_⟩
 exact ⟨bK, (Zt (Zt (Zt b m) x) b1), (bh).drop, rfl⟩
end Go.Pw
