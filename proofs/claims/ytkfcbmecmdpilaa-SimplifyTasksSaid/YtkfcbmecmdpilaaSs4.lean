/-
  The walks (printed by my generator).
-/
import Derived.Test.YtkfcbmecmdpilaaL29
import Derived.Test.YtkfcbmecmdpilaaL27
import Derived.Test.YtkfcbmecmdpilaaSs3
set_option maxRecDepth 100000
set_option maxHeartbeats 4000000
set_option linter.unusedVariables false
namespace Go.Pw
open Go.Proofs
theorem ref19_Relevant_sim {w0 w : World} {s : PHeap} {H : List Res} {fu : Nat} {ac : Ground} {o : Value} {p : Value} {t : Value} {u : Value} {x : Value} {r : ref19_Marks} (hm : ref19_Relevant_p fu ac = some r) (hS : St w0 s (H) w) (aj : SliceRep encAtom s o ac.Atoms) (ak : SliceRep encGFluent s p ac.Fluents) (dH : SliceRep (encInt .i64) s t ac.Init) (aZ : SliceRep encCond s u ac.Goal) (aM : SliceRep encGOp s x ac.Ops) :
  Calls Try.prog 23 #[Value.agg #[o, p, t, u, x]] w fun e w' => ∃ v, e = .returned v ∧ ((fun (bR : ref19_Marks) => ∃ (aJ : PHeap) (bP : Value) (bQ : Value), PHeap.le s aJ ∧ St w0 aJ (H) w' ∧ v = Value.agg #[bP, bQ] ∧ SliceRep encBool aJ bP bR.Atoms ∧ SliceRep encBool aJ bQ bR.Fluents) r) := by
 unfold ref19_Relevant_p at hm
 refine calls_of_W Try.func23 rfl rfl (Zc (Zd (Za rfl rfl (Exec.box (cs := [o, p, t, u, x]) hS rfl rfl rfl ?_))))
 intro g eE ck
 refine Za rfl rfl (Exec.alloc (cs := [Value.slice none 0 0, Value.slice none 0 0]) ck Z64 rfl rfl ?_)
 intro i eF al
 refine Zb (Ze (Zc ?_))
 obtain ⟨cD, a3, hm⟩ := Zg hm
 obtain ⟨cE, a4, hm⟩ := Zg hm
 refine W_mid (M := fun f' w' => ∃ (bG : PHeap) (d : Nat) (a : Value) (b : Value), PHeap.le s bG ∧ St w0 bG (Res.box g 28 [o, p, t, u, x] :: Res.box i 64 [Value.slice none 0 0, Value.slice none 0 0] :: Res.box d 64 [a, b] :: Res.arr encBool 4 a cD :: Res.arr encBool 4 b cE :: H) w' ∧ f' 1 = Value.pointer (some ⟨g, 0, none⟩) ∧ f' 2 = Value.pointer (some ⟨i, 0, none⟩) ∧ f' 3 = Value.pointer (some ⟨d, 0, none⟩)) ?_ ?_
 ·refine W_dl (n0 := 10) (qs 0 3 (qs 4 3 (.alt (.e 3 [4, 5, 6] (.alt (.e 7 [] (.q 8 (.e 9 [8] .done))) (.e 9 [4, 5, 6] (.e 7 [] (.q 8 .done))))) (.alt (.e 7 [0, 1, 2] (.alt (.e 3 [] (.q 8 (.e 9 [8] .done))) (.e 9 [0, 1, 2] (.e 3 [] (.q 8 .done))))) (.e 9 [0, 1, 2, 4, 5, 6] (.alt (.e 3 [4, 5, 6] (.e 7 [] (.q 8 .done))) (.e 7 [0, 1, 2] (.e 3 [] (.q 8 .done))))))))) hmix (by kernel_rfl) (by kernel_rfl) (DL_q rfl rfl (Zp F28_0 rfl rfl rfl ⟨rfl, ?_⟩))
  refine DL_q rfl rfl (Zn ((al.drew).f1) A22 rfl rfl rfl ⟨rfl, ?_⟩)
  refine DL_q rfl rfl (Zr S22 rfl rfl aj ⟨rfl, ?_⟩)
  refine DL_q rfl rfl (Zp F28_1 rfl rfl rfl ⟨rfl, ?_⟩)
  refine DL_q rfl rfl (Zn ((al.drew).f1) A23 rfl rfl rfl ⟨rfl, ?_⟩)
  refine DL_q rfl rfl (Zr S23 rfl rfl ak ⟨rfl, ?_⟩)
  refine DL_alt ?_ ?_
  ·refine DL_e rfl rfl (Exec.make (E := encBool) al.drew S60 Z4 rfl rfl rfl rfl a3 ?_)
   intro m eG aN
   refine ⟨(ag_cons (ag_r rfl rfl (Zp F28_1 rfl rfl rfl ⟨rfl, rfl⟩)) (ag_cons (ag_r rfl rfl (Zn ((aN).f2) A23 rfl rfl rfl ⟨rfl, rfl⟩)) (ag_cons (ag_r rfl rfl (Zr S23 rfl rfl ak ⟨rfl, rfl⟩)) ag_nil))), ?_⟩
   refine DL_alt ?_ ?_
   ·refine DL_e rfl rfl (Exec.make (E := encBool) aN S60 Z4 rfl rfl rfl rfl a4 ?_)
    intro aa eH aO
    refine ⟨ag_nil, ?_⟩
    refine DL_q rfl rfl (Exec.build rfl (parts_cons (c := [m]) (cells_of rfl (cells_one ((aO).f1).arr_one)) (parts_cons (c := [aa]) (cells_of rfl (cells_one (aO).arr_one)) parts_nil)) (v := Value.agg #[m, aa]) (fun _ => by kernel_rfl) ⟨rfl, ?_⟩)
    refine DL_e rfl rfl (Exec.alloc (cs := [Value.slice none 0 0, Value.slice none 0 0]) aO Z64 rfl rfl ?_)
    intro bV eI am
    refine ⟨(ag_cons (ag_r rfl rfl (Exec.build rfl (parts_cons (c := [m]) (cells_of rfl (cells_one ((am).f2).arr_one)) (parts_cons (c := [aa]) (cells_of rfl (cells_one ((am).f1).arr_one)) parts_nil)) (v := Value.agg #[m, aa]) (fun _ => by kernel_rfl) ⟨rfl, rfl⟩)) ag_nil), ?_⟩
    refine DL_done (Za rfl rfl (Exec.store_box (ds := [m, aa]) (es := [m, aa]) am A64 rfl rfl rfl rfl (Zj ((am).f2).arr_one (Zj ((am).f1).arr_one one_nil)) (Nat.le_of_ble_eq_true rfl) rfl ?_))
    intro eJ cl
    refine Zb (Ze ?_)
    exact ⟨s, bV, m, aa, (Zv _), (((((cl).f1).f2).f2).f3).f4, rfl, rfl, rfl⟩
   refine DL_e rfl rfl (Exec.alloc (cs := [Value.slice none 0 0, Value.slice none 0 0]) aN Z64 rfl rfl ?_)
   intro bW eK bh
   refine ⟨(ag_cons (ag_r rfl rfl (Zp F28_1 rfl rfl rfl ⟨rfl, rfl⟩)) (ag_cons (ag_r rfl rfl (Zn ((bh).f3) A23 rfl rfl rfl ⟨rfl, rfl⟩)) (ag_cons (ag_r rfl rfl (Zr S23 rfl rfl ak ⟨rfl, rfl⟩)) ag_nil))), ?_⟩
   refine DL_e rfl rfl (Exec.make (E := encBool) bh S60 Z4 rfl rfl rfl rfl a4 ?_)
   intro a5 eL an
   refine ⟨ag_nil, ?_⟩
   refine DL_q rfl rfl (Exec.build rfl (parts_cons (c := [m]) (cells_of rfl (cells_one ((an).f2).arr_one)) (parts_cons (c := [a5]) (cells_of rfl (cells_one (an).arr_one)) parts_nil)) (v := Value.agg #[m, a5]) (fun _ => by kernel_rfl) ⟨rfl, ?_⟩)
   refine DL_done (Za rfl rfl (Exec.store_box (ds := [m, a5]) (es := [m, a5]) (an).f1 A64 rfl rfl rfl rfl (Zj (((an).f1).f2).arr_one (Zj (((an).f1).f1).arr_one one_nil)) (Nat.le_of_ble_eq_true rfl) rfl ?_))
   intro eM cm
   refine Zb (Ze ?_)
   exact ⟨s, bW, m, a5, (Zv _), (((((cm).f1).f2).f2).f3).f4, rfl, rfl, rfl⟩
  refine DL_alt ?_ ?_
  ·refine DL_e rfl rfl (Exec.make (E := encBool) al.drew S60 Z4 rfl rfl rfl rfl a4 ?_)
   intro n eN aP
   refine ⟨(ag_cons (ag_r rfl rfl (Zp F28_0 rfl rfl rfl ⟨rfl, rfl⟩)) (ag_cons (ag_r rfl rfl (Zn ((aP).f2) A22 rfl rfl rfl ⟨rfl, rfl⟩)) (ag_cons (ag_r rfl rfl (Zr S22 rfl rfl aj ⟨rfl, rfl⟩)) ag_nil))), ?_⟩
   refine DL_alt ?_ ?_
   ·refine DL_e rfl rfl (Exec.make (E := encBool) aP S60 Z4 rfl rfl rfl rfl a3 ?_)
    intro ab eO aQ
    refine ⟨ag_nil, ?_⟩
    refine DL_q rfl rfl (Exec.build rfl (parts_cons (c := [ab]) (cells_of rfl (cells_one (aQ).arr_one)) (parts_cons (c := [n]) (cells_of rfl (cells_one ((aQ).f1).arr_one)) parts_nil)) (v := Value.agg #[ab, n]) (fun _ => by kernel_rfl) ⟨rfl, ?_⟩)
    refine DL_e rfl rfl (Exec.alloc (cs := [Value.slice none 0 0, Value.slice none 0 0]) aQ Z64 rfl rfl ?_)
    intro bX eP ao
    refine ⟨(ag_cons (ag_r rfl rfl (Exec.build rfl (parts_cons (c := [ab]) (cells_of rfl (cells_one ((ao).f1).arr_one)) (parts_cons (c := [n]) (cells_of rfl (cells_one ((ao).f2).arr_one)) parts_nil)) (v := Value.agg #[ab, n]) (fun _ => by kernel_rfl) ⟨rfl, rfl⟩)) ag_nil), ?_⟩
    refine DL_done (Za rfl rfl (Exec.store_box (ds := [ab, n]) (es := [ab, n]) ao A64 rfl rfl rfl rfl (Zj ((ao).f1).arr_one (Zj ((ao).f2).arr_one one_nil)) (Nat.le_of_ble_eq_true rfl) rfl ?_))
    intro eQ cn
    refine Zb (Ze ?_)
    exact ⟨s, bX, ab, n, (Zv _), (((((cn).f2).f2).f2).f3).f4, rfl, rfl, rfl⟩
   refine DL_e rfl rfl (Exec.alloc (cs := [Value.slice none 0 0, Value.slice none 0 0]) aP Z64 rfl rfl ?_)
   intro bY eR bi
   refine ⟨(ag_cons (ag_r rfl rfl (Zp F28_0 rfl rfl rfl ⟨rfl, rfl⟩)) (ag_cons (ag_r rfl rfl (Zn ((bi).f3) A22 rfl rfl rfl ⟨rfl, rfl⟩)) (ag_cons (ag_r rfl rfl (Zr S22 rfl rfl aj ⟨rfl, rfl⟩)) ag_nil))), ?_⟩
   refine DL_e rfl rfl (Exec.make (E := encBool) bi S60 Z4 rfl rfl rfl rfl a3 ?_)
   intro a6 eS ap
   refine ⟨ag_nil, ?_⟩
   refine DL_q rfl rfl (Exec.build rfl (parts_cons (c := [a6]) (cells_of rfl (cells_one (ap).arr_one)) (parts_cons (c := [n]) (cells_of rfl (cells_one ((ap).f2).arr_one)) parts_nil)) (v := Value.agg #[a6, n]) (fun _ => by kernel_rfl) ⟨rfl, ?_⟩)
   refine DL_done (Za rfl rfl (Exec.store_box (ds := [a6, n]) (es := [a6, n]) (ap).f1 A64 rfl rfl rfl rfl (Zj (((ap).f1).f1).arr_one (Zj (((ap).f1).f2).arr_one one_nil)) (Nat.le_of_ble_eq_true rfl) rfl ?_))
   intro eT co
   refine Zb (Ze ?_)
   exact ⟨s, bY, a6, n, (Zv _), (((((co).f2).f2).f2).f3).f4, rfl, rfl, rfl⟩
  refine DL_e rfl rfl (Exec.alloc (cs := [Value.slice none 0 0, Value.slice none 0 0]) al.drew Z64 rfl rfl ?_)
  intro ba eU aB
  refine ⟨(ag_cons (ag_r rfl rfl (Zp F28_0 rfl rfl rfl ⟨rfl, rfl⟩)) (ag_cons (ag_r rfl rfl (Zn ((aB).f2) A22 rfl rfl rfl ⟨rfl, rfl⟩)) (ag_cons (ag_r rfl rfl (Zr S22 rfl rfl aj ⟨rfl, rfl⟩)) (ag_cons (ag_r rfl rfl (Zp F28_1 rfl rfl rfl ⟨rfl, rfl⟩)) (ag_cons (ag_r rfl rfl (Zn ((aB).f2) A23 rfl rfl rfl ⟨rfl, rfl⟩)) (ag_cons (ag_r rfl rfl (Zr S23 rfl rfl ak ⟨rfl, rfl⟩)) ag_nil)))))), ?_⟩
  refine DL_alt ?_ ?_
  ·refine DL_e rfl rfl (Exec.make (E := encBool) aB S60 Z4 rfl rfl rfl rfl a3 ?_)
   intro a7 eV bj
   refine ⟨(ag_cons (ag_r rfl rfl (Zp F28_1 rfl rfl rfl ⟨rfl, rfl⟩)) (ag_cons (ag_r rfl rfl (Zn ((bj).f3) A23 rfl rfl rfl ⟨rfl, rfl⟩)) (ag_cons (ag_r rfl rfl (Zr S23 rfl rfl ak ⟨rfl, rfl⟩)) ag_nil))), ?_⟩
   refine DL_e rfl rfl (Exec.make (E := encBool) bj S60 Z4 rfl rfl rfl rfl a4 ?_)
   intro a8 eW aq
   refine ⟨ag_nil, ?_⟩
   refine DL_q rfl rfl (Exec.build rfl (parts_cons (c := [a7]) (cells_of rfl (cells_one ((aq).f1).arr_one)) (parts_cons (c := [a8]) (cells_of rfl (cells_one (aq).arr_one)) parts_nil)) (v := Value.agg #[a7, a8]) (fun _ => by kernel_rfl) ⟨rfl, ?_⟩)
   refine DL_done (Za rfl rfl (Exec.store_box (ds := [a7, a8]) (es := [a7, a8]) (aq).f2 A64 rfl rfl rfl rfl (Zj (((aq).f2).f2).arr_one (Zj (((aq).f2).f1).arr_one one_nil)) (Nat.le_of_ble_eq_true rfl) rfl ?_))
   intro eX cp
   refine Zb (Ze ?_)
   exact ⟨s, ba, a7, a8, (Zv _), (((((cp).f1).f2).f2).f3).f4, rfl, rfl, rfl⟩
  refine DL_e rfl rfl (Exec.make (E := encBool) aB S60 Z4 rfl rfl rfl rfl a4 ?_)
  intro a9 eY bk
  refine ⟨(ag_cons (ag_r rfl rfl (Zp F28_0 rfl rfl rfl ⟨rfl, rfl⟩)) (ag_cons (ag_r rfl rfl (Zn ((bk).f3) A22 rfl rfl rfl ⟨rfl, rfl⟩)) (ag_cons (ag_r rfl rfl (Zr S22 rfl rfl aj ⟨rfl, rfl⟩)) ag_nil))), ?_⟩
  refine DL_e rfl rfl (Exec.make (E := encBool) bk S60 Z4 rfl rfl rfl rfl a3 ?_)
  intro aA eZ ar
  refine ⟨ag_nil, ?_⟩
  refine DL_q rfl rfl (Exec.build rfl (parts_cons (c := [aA]) (cells_of rfl (cells_one (ar).arr_one)) (parts_cons (c := [a9]) (cells_of rfl (cells_one ((ar).f1).arr_one)) parts_nil)) (v := Value.agg #[aA, a9]) (fun _ => by kernel_rfl) ⟨rfl, ?_⟩)
  refine DL_done (Za rfl rfl (Exec.store_box (ds := [aA, a9]) (es := [aA, a9]) (ar).f2 A64 rfl rfl rfl rfl (Zj (((ar).f2).f1).arr_one (Zj (((ar).f2).f2).arr_one one_nil)) (Nat.le_of_ble_eq_true rfl) rfl ?_))
  intro fa cq
  refine Zb (Ze ?_)
  exact ⟨s, ba, aA, a9, (Zv _), (((((cq).f2).f2).f2).f3).f4, rfl, rfl, rfl⟩
 intro dX fb cf
 obtain ⟨aW, d, a, b, ag, cr, cL, cM, cN⟩ := cf
 refine (Ze (Zc (Zc (Zd (Za rfl rfl (Zo (v := Vi (0)) rfl rfl (Zb (Ze ?_))))))))
 obtain ⟨bb, bZ, ef, c7, c4⟩ := ctl_some hm
 refine W_mid (M := fun f' w' => ∃ s', (bb = .next s' ∨ bb = .brk s') ∧ (un3 fun (bq : Int) (bs : (List Bool)) (bt : (List Bool)) => ∃ (bH : PHeap) , PHeap.le aW bH ∧ St w0 bH (Res.box g 28 [o, p, t, u, x] :: Res.box i 64 [Value.slice none 0 0, Value.slice none 0 0] :: Res.box d 64 [a, b] :: Res.arr encBool 4 a bs :: Res.arr encBool 4 b bt :: H) w' ∧ f' 1 = Value.pointer (some ⟨g, 0, none⟩) ∧ f' 2 = Value.pointer (some ⟨i, 0, none⟩) ∧ f' 3 = Value.pointer (some ⟨d, 0, none⟩) ∧ f' 4 = Vi (bq)) s') ?_ ?_
 ·refine W_block (W_while (fun s' f' w' => (un3 fun (af : Int) (bu : (List Bool)) (bv : (List Bool)) => ∃ (bI : PHeap) , PHeap.le aW bI ∧ St w0 bI (Res.box g 28 [o, p, t, u, x] :: Res.box i 64 [Value.slice none 0 0, Value.slice none 0 0] :: Res.box d 64 [a, b] :: Res.arr encBool 4 a bu :: Res.arr encBool 4 b bv :: H) w' ∧ f' 1 = Value.pointer (some ⟨g, 0, none⟩) ∧ f' 2 = Value.pointer (some ⟨i, 0, none⟩) ∧ f' 3 = Value.pointer (some ⟨d, 0, none⟩) ∧ f' 4 = Vi (af)) s') bZ ?_ ?_)
  ·have ct := (cr).f4
   exact ⟨aW, (Zv _), ((((ct).f4).f4).f4).f4, cL, cM, cN, rfl⟩
  intro d9 bc dY fc cc l cA
  obtain ⟨af, bu, bv⟩ := d9
  replace l := un3_eq l
  obtain ⟨d1, aD, ad, aG, bA, aT, aH⟩ := cc
  refine Zc (Zc (Zd (Za rfl rfl (Zm (v := Vi (af)) rfl aH (Za rfl rfl (Zp F28_3 rfl aG rfl (Za rfl rfl (Zn (ad) A25 rfl rfl rfl (Za rfl rfl (Zr S25 rfl rfl (aZ.mono (Zt ag aD)) (Za rfl rfl (Zq rfl rfl rfl (Zb (Ze ?_))))))))))))))
  rcases ite_some l with ⟨av, l⟩ | ⟨av, l⟩
  ·refine W_cond_t rfl av (W_skip (Ze (Zc (W_block (W_dl (n0 := 7) (qs 0 6 (.e 6 [] .done)) hmix (by kernel_rfl) (by kernel_rfl) (DL_q rfl rfl (Exec.load_box_agg (ds := [a, b]) ((ad.drew).f2) A64 rfl aT rfl ⟨rfl, ?_⟩)))))))
   refine DL_q rfl rfl (Zp F28_3 rfl aG rfl ⟨rfl, ?_⟩)
   refine DL_q rfl rfl (Zn (ad.drew) A25 rfl rfl rfl ⟨rfl, ?_⟩)
   refine DL_q rfl rfl (Zm (v := Vi (af)) rfl aH ⟨rfl, ?_⟩)
   obtain ⟨fp, db, l⟩ := Zg l
   refine DL_q rfl rfl (Exec.index_repE S25 rfl rfl rfl (aZ.mono (Zt ag aD)) db ?_)
   intro dI em bS dL
   refine ⟨rfl, ?_⟩
   refine DL_q rfl rfl (Zw (E := encCond) ad.drew A47 rfl rfl rfl bS ?_)
   intro eB dc
   obtain ⟨ey, ez, e0, rfl, dk, dl, dm⟩ := encCond_val.1 dc
   refine ⟨rfl, ?_⟩
   obtain ⟨dA, dd, l⟩ := Zg l
   obtain ⟨ei, ej⟩ := dA
   replace l := un2_eq l
   refine DL_e rfl rfl (Tc rfl rfl rfl (Zi rfl (Zi rfl args_nil)) (ref19_Marks_cond_o_sim dd ((ad.drew).f4).f4 dk dl dm).r ?_)
   rintro _ fd ⟨d2, cF, cu, rfl⟩
   refine ⟨ag_nil, ?_⟩
   refine DL_done (Zb (ib_normal (Ze (Zd (Za rfl rfl (Zm (v := Vi (af)) rfl aH (Za rfl rfl (Exec.add rfl rfl rfl (Za rfl rfl (Zo (v := Vi (IntKind.i64.wrap (af + 1))) rfl rfl (Zb (Ze ?_))))))))))))
   have dM := Zu l
   subst bc
   refine ⟨_, rfl, ?_⟩; exact ⟨d2, (Zt aD cF), (((((cu).f1).f1).f4).f4).f4, aG, bA, aT, rfl⟩
  refine W_cond_f rfl av ?_
  replace av := Zk av
  refine W_exit (at_exit (at_exit (ib_here (Ze ?_))))
  have dN := Zu l
  subst bc
  refine ⟨_, .inr (cA (by intro _ h; cases h)), ?_⟩; exact ⟨d1, aD, (((((ad).f4).f4).f4).f4).f4, aG, bA, aT, aH⟩
 rintro dZ fe ⟨dB, bn, cg⟩
 have hm := bn.elim (c7 _) (c4 _)
 clear bn
 obtain ⟨bq, bs, bt⟩ := dB
 replace hm := un3_eq hm
 obtain ⟨aX, aE, cv, cO, cP, cQ, ep⟩ := cg
 refine (Ze (Zc (Zc (Zd (Za rfl rfl (Zo (v := Vi ((-1))) rfl rfl (Zb (Ze ?_))))))))
 obtain ⟨bd, ca, eg, c8, c5⟩ := ctl_some hm
 refine W_mid (M := fun f' w' => ∃ s', (bd = .next s' ∨ bd = .brk s') ∧ (un3 fun (b9 : Int) (bw : (List Bool)) (bx : (List Bool)) => ∃ (bJ : PHeap) , PHeap.le aX bJ ∧ St w0 bJ (Res.box g 28 [o, p, t, u, x] :: Res.box i 64 [Value.slice none 0 0, Value.slice none 0 0] :: Res.box d 64 [a, b] :: Res.arr encBool 4 a bw :: Res.arr encBool 4 b bx :: H) w' ∧ f' 1 = Value.pointer (some ⟨g, 0, none⟩) ∧ f' 2 = Value.pointer (some ⟨i, 0, none⟩) ∧ f' 3 = Value.pointer (some ⟨d, 0, none⟩) ∧ f' 5 = Vi (b9)) s') ?_ ?_
 ·refine W_block (W_while (fun s' f' w' => (un3 fun (aS : Int) (bz : (List Bool)) (b0 : (List Bool)) => ∃ (bK : PHeap) , PHeap.le aX bK ∧ St w0 bK (Res.box g 28 [o, p, t, u, x] :: Res.box i 64 [Value.slice none 0 0, Value.slice none 0 0] :: Res.box d 64 [a, b] :: Res.arr encBool 4 a bz :: Res.arr encBool 4 b b0 :: H) w' ∧ f' 1 = Value.pointer (some ⟨g, 0, none⟩) ∧ f' 2 = Value.pointer (some ⟨i, 0, none⟩) ∧ f' 3 = Value.pointer (some ⟨d, 0, none⟩) ∧ f' 5 = Vi (aS)) s') ca ?_ ?_)
  ·have cw := (cv).f4
   exact ⟨aX, (Zv _), ((((cw).f4).f4).f4).f4, cO, cP, cQ, rfl⟩
  intro dC be ea ff cd j cB
  obtain ⟨aS, bz, b0⟩ := dC
  replace j := un3_eq j
  obtain ⟨ev, az, bl, bB, bC, aI, bD⟩ := cd
  refine Zc (Zc (Zd (Za rfl rfl (Zm (v := Vi (aS)) rfl bD (Za rfl rfl (Exec.load_box_agg (ds := [a, b]) ((bl).f2) A64 rfl aI rfl ?_))))))
  obtain ⟨fr, de, j⟩ := Zg j
  refine Za rfl rfl (Tc rfl rfl rfl (Zi rfl args_nil) (ref19_Marks_count_o_sim de ((bl).f4).f4 ).r ?_)
  rintro _ fg ⟨d3, a0, aR, rfl⟩
  refine Za rfl rfl (Exec.neq rfl rfl rfl (Zb (Ze ?_)))
  rcases ite_some j with ⟨aw, j⟩ | ⟨aw, j⟩
  ·refine W_cond_t rfl aw (W_skip (Ze (W_block (Zc (Zd (Za rfl rfl (Exec.load_box_agg (ds := [a, b]) ((aR).f4) A64 rfl aI rfl ?_)))))))
   obtain ⟨aL, df, j⟩ := Zg j
   refine Za rfl rfl (Tc rfl rfl rfl (Zi rfl args_nil) (ref19_Marks_count_o_sim df ((aR).f1).f1 ).r ?_)
   rintro _ fh ⟨aY, aF, cx, rfl⟩
   refine Za rfl rfl (Zo (v := Vi (aL)) rfl rfl (Zb (Ze (Zc (Zd (Za rfl rfl (Zo (v := Vi (0)) rfl rfl (Zb (Ze ?_)))))))))
   obtain ⟨bf, cb, eh, c9, c6⟩ := ctl_some j
   refine W_mid (M := fun f' w' => ∃ s', (bf = .next s' ∨ bf = .brk s') ∧ (un3 fun (br : Int) (b1 : (List Bool)) (b2 : (List Bool)) => ∃ (bL : PHeap) , PHeap.le aY bL ∧ St w0 bL (Res.box g 28 [o, p, t, u, x] :: Res.box i 64 [Value.slice none 0 0, Value.slice none 0 0] :: Res.box d 64 [a, b] :: Res.arr encBool 4 a b1 :: Res.arr encBool 4 b b2 :: H) w' ∧ f' 1 = Value.pointer (some ⟨g, 0, none⟩) ∧ f' 2 = Value.pointer (some ⟨i, 0, none⟩) ∧ f' 3 = Value.pointer (some ⟨d, 0, none⟩) ∧ f' 5 = Vi (aL) ∧ f' 6 = Vi (br)) s') ?_ ?_
   ·refine W_block (W_while (fun s' f' w' => (un3 fun (z : Int) (b3 : (List Bool)) (b4 : (List Bool)) => ∃ (bM : PHeap) , PHeap.le aY bM ∧ St w0 bM (Res.box g 28 [o, p, t, u, x] :: Res.box i 64 [Value.slice none 0 0, Value.slice none 0 0] :: Res.box d 64 [a, b] :: Res.arr encBool 4 a b3 :: Res.arr encBool 4 b b4 :: H) w' ∧ f' 1 = Value.pointer (some ⟨g, 0, none⟩) ∧ f' 2 = Value.pointer (some ⟨i, 0, none⟩) ∧ f' 3 = Value.pointer (some ⟨d, 0, none⟩) ∧ f' 5 = Vi (aL) ∧ f' 6 = Vi (z)) s') cb ?_ ?_)
    ·have cy := (cx).f1
     exact ⟨aY, (Zv _), ((((cy).f1).f4).f4).f4, bB, bC, aI, rfl, rfl⟩
    intro dD bg eb fi ce k cC
    obtain ⟨z, b3, b4⟩ := dD
    replace k := un3_eq k
    obtain ⟨d4, a1, ae, ah, aU, a2, aV, ai⟩ := ce
    refine Zc (Zc (Zd (Za rfl rfl (Zm (v := Vi (z)) rfl ai (Za rfl rfl (Zp F28_4 rfl ah rfl (Za rfl rfl (Zn (ae) A26 rfl rfl rfl (Za rfl rfl (Zr S26 rfl rfl (aM.mono (Zt (Zt (Zt (Zt (Zt ag aE) az) a0) aF) a1)) (Za rfl rfl (Zq rfl rfl rfl (Zb (Ze ?_))))))))))))))
    rcases ite_some k with ⟨ax, k⟩ | ⟨ax, k⟩
    ·refine W_cond_t rfl ax (W_skip (Ze (Zc (W_block (Zc (W_dl (n0 := 7) (qs 0 6 (.e 6 [] .done)) hmix (by kernel_rfl) (by kernel_rfl) (DL_q rfl rfl (Exec.load_box_agg (ds := [a, b]) ((ae.drew).f2) A64 rfl a2 rfl ⟨rfl, ?_⟩))))))))
     refine DL_q rfl rfl (Zp F28_4 rfl ah rfl ⟨rfl, ?_⟩)
     refine DL_q rfl rfl (Zn (ae.drew) A26 rfl rfl rfl ⟨rfl, ?_⟩)
     refine DL_q rfl rfl (Zm (v := Vi (z)) rfl ai ⟨rfl, ?_⟩)
     obtain ⟨fq, bF, k⟩ := Zg k
     refine DL_q rfl rfl (Exec.index_repE S26 rfl rfl rfl (aM.mono (Zt (Zt (Zt (Zt (Zt ag aE) az) a0) aF) a1)) bF ?_)
     intro dJ en bT dO
     refine ⟨rfl, ?_⟩
     refine DL_q rfl rfl (Zw (E := encGOp) ae.drew A51 rfl rfl rfl bT ?_)
     intro eC dg
     obtain ⟨e1, e2, e3, e4, e5, rfl, dn, dp, dq, dr, dt⟩ := encGOp_val.1 dg
     refine ⟨rfl, ?_⟩
     obtain ⟨fs, dh, k⟩ := Zg k
     refine DL_e rfl rfl (Tc rfl rfl rfl (Zi rfl (Zi rfl args_nil)) (ref19_Marks_Touches_o_sim dh ((ae.drew).f4).f4 dn dp dq dr dt).r ?_)
     rintro _ fj ⟨bN, b5, au, rfl⟩
     refine ⟨ag_nil, ?_⟩
     refine DL_done (Zb (Ze ?_))
     obtain ⟨aK, y, k⟩ := Zg k
     refine W_mid (M := fun f' w' => (un2 fun (b6 : (List Bool)) (b7 : (List Bool)) => ∃ (bO : PHeap) , PHeap.le bN bO ∧ St w0 bO (Res.box g 28 [o, p, t, u, x] :: Res.box i 64 [Value.slice none 0 0, Value.slice none 0 0] :: Res.box d 64 [a, b] :: Res.arr encBool 4 a b6 :: Res.arr encBool 4 b b7 :: H) w' ∧ f' 1 = Value.pointer (some ⟨g, 0, none⟩) ∧ f' 2 = Value.pointer (some ⟨i, 0, none⟩) ∧ f' 3 = Value.pointer (some ⟨d, 0, none⟩) ∧ f' 5 = Vi (aL) ∧ f' 6 = Vi (z)) aK) ?_ ?_
     ·rcases ite_some y with ⟨ay, y⟩ | ⟨ay, y⟩
      ·refine W_cond_t rfl ay (W_dl (n0 := 7) (qs 0 6 (.e 6 [] .done)) hmix (by kernel_rfl) (by kernel_rfl) (DL_q rfl rfl (Exec.load_box_agg (ds := [a, b]) ((au.drew).f4) A64 rfl a2 rfl ⟨rfl, ?_⟩)))
       refine DL_q rfl rfl (Zp F28_4 rfl ah rfl ⟨rfl, ?_⟩)
       refine DL_q rfl rfl (Zn ((au.drew).f2) A26 rfl rfl rfl ⟨rfl, ?_⟩)
       refine DL_q rfl rfl (Zm (v := Vi (z)) rfl ai ⟨rfl, ?_⟩)
       refine DL_q rfl rfl (Exec.index_repE S26 rfl rfl rfl (aM.mono (Zt (Zt (Zt (Zt (Zt (Zt ag aE) az) a0) aF) a1) b5)) bF ?_)
       intro dK eo bU dP
       refine ⟨rfl, ?_⟩
       refine DL_q rfl rfl (Zw (E := encGOp) au.drew A51 rfl rfl rfl bU ?_)
       intro eD di
       obtain ⟨e6, e7, e8, e9, eA, rfl, du, dv, dw, dx, dy⟩ := encGOp_val.1 di
       refine ⟨rfl, ?_⟩
       obtain ⟨dE, dj, y⟩ := Zg y
       obtain ⟨ek, el⟩ := dE
       replace y := un2_eq y
       refine DL_e rfl rfl (Tc rfl rfl rfl (Zi rfl (Zi rfl args_nil)) (ref19_Marks_operator_o_sim dj ((au.drew).f1).f1 du dv dw dx dy).r ?_)
       rintro _ fk ⟨d5, cG, cz, rfl⟩
       refine ⟨ag_nil, ?_⟩
       refine DL_done (Zb (Ze ?_))
       have dQ := Zu y
       subst aK
       exact ⟨d5, cG, (((((cz).f1).f1).f4).f4).f4, ah, aU, a2, aV, ai⟩
      refine W_cond_f rfl ay ?_
      replace ay := Zk ay
      refine W_skip (Ze ?_)
      have dR := Zu y
      subst aK
      exact ⟨bN, (Zv _), (((((au).f1).f1).f4).f4).f4, ah, aU, a2, aV, ai⟩
     intro ec fl ch
     obtain ⟨b6, b7⟩ := aK
     replace k := un2_eq k
     obtain ⟨d6, cH, c0, cR, cS, cT, cU, cV⟩ := ch
     refine (ib_normal (Ze (Zd (Za rfl rfl (Zm (v := Vi (z)) rfl cV (Za rfl rfl (Exec.add rfl rfl rfl (Za rfl rfl (Zo (v := Vi (IntKind.i64.wrap (z + 1))) rfl rfl (Zb (Ze ?_)))))))))))
     have dS := Zu k
     subst bg
     refine ⟨_, rfl, ?_⟩; exact ⟨d6, (Zt (Zt a1 b5) cH), (((((c0).f4).f4).f4).f4).f4, cR, cS, cT, cU, rfl⟩
    refine W_cond_f rfl ax ?_
    replace ax := Zk ax
    refine W_exit (at_exit (at_exit (ib_here (Ze ?_))))
    have dT := Zu k
    subst bg
    refine ⟨_, .inr (cC (by intro _ h; cases h)), ?_⟩; exact ⟨d4, a1, (((((ae).f4).f4).f4).f4).f4, ah, aU, a2, aV, ai⟩
   rintro ed fm ⟨dF, bo, ci⟩
   have j := bo.elim (c9 _) (c6 _)
   clear bo
   obtain ⟨br, b1, b2⟩ := dF
   replace j := un3_eq j
   obtain ⟨d7, cI, c1, cW, cX, cY, cZ, er⟩ := ci
   refine (ib_normal (Ze ?_))
   have dU := Zu j
   subst be
   refine ⟨_, rfl, ?_⟩; exact ⟨d7, (Zt (Zt (Zt az a0) aF) cI), (((((c1).f4).f4).f4).f4).f4, cW, cX, cY, cZ⟩
  refine W_cond_f rfl aw ?_
  replace aw := Zk aw
  refine W_exit (at_exit (at_exit (ib_here (Ze ?_))))
  have dV := Zu j
  subst be
  refine ⟨_, .inr (cB (by intro _ h; cases h)), ?_⟩; exact ⟨d3, (Zt az a0), (((((aR).f1).f1).f4).f4).f4, bB, bC, aI, bD⟩
 rintro ee fn ⟨dG, bp, cj⟩
 have hm := bp.elim (c8 _) (c5 _)
 clear bp
 obtain ⟨b9, bw, bx⟩ := dG
 replace hm := un3_eq hm
 obtain ⟨ew, cJ, aC, et, bE, da, eu⟩ := cj
 refine (Ze (Zc (Zd (Za rfl rfl (Exec.load_box_agg (ds := [a, b]) ((aC).f2) A64 rfl da rfl (Za rfl rfl (Exec.store_box (ds := [a, b]) (es := [a, b]) (aC).f1 A64 rfl bE rfl rfl (Zj (((aC).f1).f3).arr_one (Zj (((aC).f1).f4).arr_one one_nil)) (Nat.le_of_ble_eq_true rfl) rfl ?_)))))))
 intro fo bm
 refine Zb (Ze (W_ret ?_))
 have dW := Zu hm
 subst r
 refine ⟨_, retG1 rfl ⟨_, _, bE, cellRes (bm) A64⟩, ?_⟩
 obtain ⟨ex, cK, c2, dz⟩ := (bm).f3.freezeArr
 obtain ⟨d8, b8, c3, d0⟩ := (c2).f3.freezeArr
 exact ⟨d8, a, b, (Zt (Zt (Zt (Zt ag aE) cJ) cK) b8), (((c3).drop).drop).drop, rfl, (dz.mono b8), d0⟩
theorem Z37 : tyZero Try.prog 37 = some (Value.agg #[Value.slice none 0 0, Value.slice none 0 0, Value.slice none 0 0]) := by kernel_rfl
theorem A37 : tyAgg Try.prog 37 = some (true, 3) := by kernel_rfl
theorem ref19_numbers_sim {w0 w : World} {s : PHeap} {H : List Res} {ah : (List Bool)} {i : Value} {r : (List Int)} (hm : ref19_numbers_p ah = some r) (hS : St w0 s (H) w) (ab : SliceRep encBool s i ah) :
  Calls Try.prog 39 #[i] w fun e w' => ∃ v, e = .returned v ∧ ((fun (aR : (List Int)) => ∃ (aa : PHeap) (ap : Value), PHeap.le s aa ∧ St w0 aa (H) w' ∧ v = ap ∧ SliceRep (encInt .i64) aa ap aR) r) := by
 unfold ref19_numbers_p at hm
 refine calls_of_W Try.func39 rfl rfl (Zc (Zd (Za rfl rfl (Zo (v := Value.slice none 0 0) rfl rfl (Zb (Ze (Zc (Zd (Za rfl rfl (Zo (v := Value.slice none 0 0) rfl rfl (Zb (Ze (Zc (Zd (Za rfl rfl (Zo (v := Vi (0)) rfl rfl (Zb (Ze (Zc (Zc (Zd (Za rfl rfl (Zo (v := Vi (0)) rfl rfl (Zb (Ze ?_)))))))))))))))))))))))))
 obtain ⟨ac, av, bd, a8, a7⟩ := ctl_some hm
 refine W_mid (M := fun f' w' => ∃ s', (ac = .next s' ∨ ac = .brk s') ∧ (un3 fun (ak : (List Int)) (ai : Int) (af : Int) => ∃ (am : PHeap) (j : Value), PHeap.le s am ∧ St w0 am (Res.arr (encInt .i64) 3 j ak :: H) w' ∧ f' 0 = i ∧ f' 3 = j ∧ f' 4 = Vi (ai) ∧ f' 5 = Vi (af)) s') ?_ ?_
 ·refine W_block (W_while (fun s' f' w' => (un3 fun (al : (List Int)) (d : Int) (g : Int) => ∃ (an : PHeap) (k : Value), PHeap.le s an ∧ St w0 an (Res.arr (encInt .i64) 3 k al :: H) w' ∧ f' 0 = i ∧ f' 3 = k ∧ f' 4 = Vi (d) ∧ f' 5 = Vi (g)) s') av ?_ ?_)
  ·have az := hS.nilArr (encInt .i64) 3
   exact ⟨s, (Value.slice none 0 0), (Zv _), az, rfl, rfl, rfl, rfl⟩
  intro aP ad ba bm aw a a9
  obtain ⟨al, d, g⟩ := aP
  replace a := un3_eq a
  obtain ⟨u, k, q, p, n, z, t, o⟩ := aw
  refine Zc (Zc (Zd (Za rfl rfl (Zm (v := Vi (g)) rfl o (Za rfl rfl (Zm (v := i) rfl n (Za rfl rfl (Zr S60 rfl rfl (ab.mono q) (Za rfl rfl (Zq rfl rfl rfl (Zb (Ze ?_))))))))))))
  rcases ite_some a with ⟨l, a⟩ | ⟨l, a⟩
  ·refine W_cond_t rfl l (W_skip (Ze (Zc (W_block (Zc (Zd (Za rfl rfl (Zm (v := i) rfl n (Za rfl rfl (Zm (v := Vi (g)) rfl o ?_))))))))))
   obtain ⟨bt, aI, a⟩ := Zg a
   refine Za rfl rfl (Exec.index_rep S60 rfl rfl rfl (ab.mono q) aI ?_)
   intro aS bg au
   refine Za rfl rfl (Zw (E := encBool) p A4 rfl rfl rfl au ?_)
   intro bl aJ
   obtain rfl := encBool_val.1 aJ
   refine Zb (Ze ?_)
   obtain ⟨x, b, a⟩ := Zg a
   refine W_mid (M := fun f' w' => (un2 fun (aj : Int) (ag : (List Int)) => ∃ (ao : PHeap) (y : Value), PHeap.le u ao ∧ St w0 ao (Res.arr (encInt .i64) 3 y ag :: H) w' ∧ f' 0 = i ∧ f' 3 = y ∧ f' 4 = Vi (aj) ∧ f' 5 = Vi (g)) x) ?_ ?_
   ·rcases ite_some b with ⟨m, b⟩ | ⟨m, b⟩
    ·refine W_cond_t rfl m (Zc (Zd (Za rfl rfl (Zm (v := k) rfl z (Za rfl rfl (Zm (v := Vi (d)) rfl t (Za rfl rfl (Exec.buildSlice (Te := 3) (cs := [Vi (d)]) p rfl (parts_cons (c := [Vi (d)]) (cells_of rfl rfl) parts_nil) (fun _ => by kernel_rfl) ?_))))))))
     intro aT bn a0
     obtain ⟨be, aK, b⟩ := Zg b
     refine Za rfl rfl (Exec.append_box (E := (encInt .i64)) (ys := [d]) (a0).f1 S24 Z3 rfl (by decide) rfl rfl rfl rfl ⟨[Vi (d)], [], rfl, rfl, rfl⟩ rfl aK ?_)
     intro aq bo a1
     refine Za rfl rfl (Zo (v := aq) rfl rfl (Zb (Ze (Zd (Za rfl rfl (Zm (v := Vi (d)) rfl t (Za rfl rfl (Exec.add rfl rfl rfl (Za rfl rfl (Zo (v := Vi (IntKind.i64.wrap (d + 1))) rfl rfl (Zb (Ze ?_))))))))))))
     have aV := Zu b
     subst x
     exact ⟨u, aq, (Zv _), a1, n, rfl, rfl, o⟩
    refine W_cond_f rfl m ?_
    replace m := Zk m
    refine Zd (Za rfl rfl (Zm (v := k) rfl z (Za rfl rfl (Exec.buildSlice (Te := 3) (cs := [Vi ((-1))]) p rfl (parts_cons (c := [Vi ((-1))]) (cells_of rfl rfl) parts_nil) (fun _ => by kernel_rfl) ?_))))
    intro aU bp a2
    obtain ⟨bf, aL, b⟩ := Zg b
    refine Za rfl rfl (Exec.append_box (E := (encInt .i64)) (ys := [(-1)]) (a2).f1 S24 Z3 rfl (by decide) rfl rfl rfl rfl ⟨[Vi ((-1))], [], rfl, rfl, rfl⟩ rfl aL ?_)
    intro ar bq a3
    refine Za rfl rfl (Zo (v := ar) rfl rfl (Zb (Ze ?_)))
    have aW := Zu b
    subst x
    exact ⟨u, ar, (Zv _), a3, n, rfl, t, o⟩
   intro bb br ax
   obtain ⟨aj, ag⟩ := x
   replace a := un2_eq a
   obtain ⟨aN, y, aA, a4, aD, aE, aF, aG⟩ := ax
   refine (ib_normal (Ze (Zd (Za rfl rfl (Zm (v := Vi (g)) rfl aG (Za rfl rfl (Exec.add rfl rfl rfl (Za rfl rfl (Zo (v := Vi (IntKind.i64.wrap (g + 1))) rfl rfl (Zb (Ze ?_)))))))))))
   have aX := Zu a
   subst ad
   refine ⟨_, rfl, ?_⟩; exact ⟨aN, y, (Zt q aA), a4, aD, aE, aF, rfl⟩
  refine W_cond_f rfl l ?_
  replace l := Zk l
  refine W_exit (at_exit (at_exit (ib_here (Ze ?_))))
  have aY := Zu a
  subst ad
  refine ⟨_, .inr (a9 (by intro _ h; cases h)), ?_⟩; exact ⟨u, k, q, p, n, z, t, o⟩
 rintro bc bs ⟨aQ, ae, ay⟩
 have hm := ae.elim (a8 _) (a7 _)
 clear ae
 obtain ⟨ak, ai, af⟩ := aQ
 replace hm := un3_eq hm
 obtain ⟨bk, j, aB, a5, bh, aH, bi, bj⟩ := ay
 refine (Ze (Zc (Zd (Za rfl rfl (Zm (v := j) rfl aH (Za rfl rfl (Zo (v := j) rfl rfl (Zb (Ze (W_ret ?_))))))))))
 have aZ := Zu hm
 subst r
 refine ⟨_, ret1 rfl, ?_⟩
 obtain ⟨aO, aC, a6, aM⟩ := a5.freezeArr
 exact ⟨aO, j, (Zt aB aC), a6, rfl, aM⟩
theorem ref18_In_sim {w0 w : World} {s : PHeap} {H : List Res} {z : (List Int)} {j : Int} {c : Value} {r : Bool} (hm : ref18_In_p z j = some r) (hS : St w0 s (H) w) (q : SliceRep (encInt .i64) s c z) :
  Calls Try.prog 40 #[c, Vi (j)] w fun e w' => ∃ v, e = .returned v ∧ ((fun (aq : Bool) => ∃ (aa : PHeap) , PHeap.le s aa ∧ St w0 aa (H) w' ∧ v = Value.bool (aq)) r) := by
 unfold ref18_In_p at hm
 refine calls_of_W Try.func40 rfl rfl (Zc (Zd (Za rfl rfl (Zo (v := Value.bool (false)) rfl rfl (Zb (Ze (Zc (Zc (Zd (Za rfl rfl (Zo (v := Vi (0)) rfl rfl (Zb (Ze ?_)))))))))))))
 obtain ⟨t, ae, al, aj, ai⟩ := ctl_some hm
 refine W_mid (M := fun f' w' => ∃ s', (t = .next s' ∨ t = .brk s') ∧ (fun (y : Int) => ∃ (ab : PHeap) , PHeap.le s ab ∧ St w0 ab (H) w' ∧ f' 0 = c ∧ f' 1 = Vi (j) ∧ f' 5 = Vi (y)) s') ?_ ?_
 ·refine W_block (W_while (fun s' f' w' => (fun (b : Int) => ∃ (ac : PHeap) , PHeap.le s ac ∧ St w0 ac (H) w' ∧ f' 0 = c ∧ f' 1 = Vi (j) ∧ f' 5 = Vi (b)) s') ae ?_ ?_)
  ·exact ⟨s, (Zv _), hS, rfl, rfl, rfl⟩
  intro b n az a6 af a x
  obtain ⟨p, i, k, l, o, m⟩ := af
  refine Zc (Zc (Zd (Za rfl rfl (Zm (v := Vi (b)) rfl m (Za rfl rfl (Zm (v := c) rfl l (Za rfl rfl (Zr S24 rfl rfl (q.mono i) (Za rfl rfl (Zq rfl rfl rfl (Zb (Ze ?_))))))))))))
  rcases ite_some a with ⟨d, a⟩ | ⟨d, a⟩
  ·refine W_cond_t rfl d (W_skip (Ze (Zc (W_block (Zc (Zd (Za rfl rfl (Zm (v := c) rfl l (Za rfl rfl (Zm (v := Vi (b)) rfl m ?_))))))))))
   obtain ⟨a8, an, a⟩ := Zg a
   refine Za rfl rfl (Exec.index_rep S24 rfl rfl rfl (q.mono i) an ?_)
   intro ar a1 ad
   refine Za rfl rfl (Zw (E := (encInt .i64)) k A3 rfl rfl rfl ad ?_)
   intro a5 ao
   obtain rfl := encInt_val.1 ao
   refine Za rfl rfl (Zm (v := Vi (j)) rfl o (Za rfl rfl (Exec.eql rfl rfl rfl (Zb (Ze ?_)))))
   rcases ite_some a with ⟨g, a⟩ | ⟨g, a⟩
   ·refine W_cond_t rfl g (Zc (Zd (Za rfl rfl (Zo (v := Value.bool (true)) rfl rfl (Zb (Ze (W_ret (ib_ret (at_ret (at_ret (ib_ret (at_ret (at_ret ?_)))))))))))))
    have au := Zu a
    subst n
    have ak := al _ (x (by intro _ h; cases h))
    have av := Zu ak
    subst r
    refine ⟨_, ret1 rfl, ?_⟩
    exact ⟨p, i, k, rfl⟩
   refine W_cond_f rfl g ?_
   replace g := Zk g
   refine W_skip (ib_normal (Ze (Zd (Za rfl rfl (Zm (v := Vi (b)) rfl m (Za rfl rfl (Exec.add rfl rfl rfl (Za rfl rfl (Zo (v := Vi (IntKind.i64.wrap (b + 1))) rfl rfl (Zb (Ze ?_)))))))))))
   have aw := Zu a
   subst n
   refine ⟨_, rfl, ?_⟩; exact ⟨p, i, k, l, o, rfl⟩
  refine W_cond_f rfl d ?_
  replace d := Zk d
  refine W_exit (at_exit (at_exit (ib_here (Ze ?_))))
  have ax := Zu a
  subst n
  refine ⟨_, .inr (x (by intro _ h; cases h)), ?_⟩; exact ⟨p, i, k, l, o, m⟩
 rintro a0 a7 ⟨y, u, ag⟩
 have hm := u.elim (aj _) (ai _)
 clear u
 obtain ⟨ap, am, ah, a2, a3, a4⟩ := ag
 refine (Ze (Zc (Zd (Za rfl rfl (Zo (v := Value.bool (false)) rfl rfl (Zb (Ze (W_ret ?_))))))))
 have ay := Zu hm
 subst r
 refine ⟨_, ret1 rfl, ?_⟩
 exact ⟨ap, am, ah, rfl⟩
theorem F37_0 : tyField Try.prog 37 0 = some 0 := by kernel_rfl
theorem F37_1 : tyField Try.prog 37 1 = some 1 := by kernel_rfl
theorem ref19_Map_expr_step {fu : Nat} (ih : ∀ {w0 w : World} {s : PHeap} {H : List Res} {g : ref19_Map} {a : GExpr} {i : Value} {j : Value} {k : Value} {m : Value} {r : GExpr} (hm : ref19_Map_expr_p fu g a = some r) (hS : St w0 s (H) w) (aq : SliceRep (encInt .i64) s i g.Atoms) (ak : SliceRep (encInt .i64) s j g.Fluents) (ar : SliceRep (encInt .i64) s k g.Ops) (al : SliceRep encGExpr s m a.Kids), Calls Try.prog 84 #[Value.agg #[i, j, k], Value.agg #[Value.string (a.Op), Vi (a.N), m]] w fun e w' => ∃ v, e = .returned v ∧ ((fun (t : GExpr) => ∃ (p : PHeap) (aa : Value), PHeap.le s p ∧ St w0 p (H) w' ∧ v = Value.agg #[Value.string (t.Op), Vi (t.N), aa] ∧ SliceRep encGExpr p aa t.Kids) r)) {w0 w : World} {s : PHeap} {H : List Res} {g : ref19_Map} {a : GExpr} {i : Value} {j : Value} {k : Value} {m : Value} {r : GExpr} (hm : ref19_Map_expr_p (fu + 1) g a = some r) (hS : St w0 s (H) w) (aq : SliceRep (encInt .i64) s i g.Atoms) (ak : SliceRep (encInt .i64) s j g.Fluents) (ar : SliceRep (encInt .i64) s k g.Ops) (al : SliceRep encGExpr s m a.Kids) :
  Calls Try.prog 84 #[Value.agg #[i, j, k], Value.agg #[Value.string (a.Op), Vi (a.N), m]] w fun e w' => ∃ v, e = .returned v ∧ ((fun (t : GExpr) => ∃ (p : PHeap) (aa : Value), PHeap.le s p ∧ St w0 p (H) w' ∧ v = Value.agg #[Value.string (t.Op), Vi (t.N), aa] ∧ SliceRep encGExpr p aa t.Kids) r) := by
 rw [ref19_Map_expr_p] at hm
 refine calls_of_W Try.func84 rfl rfl (Zc (Zd (Za rfl rfl (Exec.box (cs := [i, j, k]) hS rfl rfl rfl ?_))))
 intro ac b1 aD
 refine Za rfl rfl (Exec.box (cs := [Value.string (a.Op), Vi (a.N), m]) aD rfl rfl rfl ?_)
 intro ad b2 aE
 refine Za rfl rfl (Exec.alloc (cs := [Value.string (⟨#[]⟩), Vi (0), Value.slice none 0 0]) aE Z82 rfl rfl ?_)
 intro ae b3 l
 refine Zb (Ze (Zc (Zc (Zd (Za rfl rfl (Zp F82_0 rfl rfl rfl (Za rfl rfl (Zn ((l).f1) A9 rfl rfl rfl (Za rfl rfl (Exec.str_eql rfl rfl rfl (Zb (Ze ?_))))))))))))
 rcases ite_some hm with ⟨y, hm⟩ | ⟨y, hm⟩
 ·refine W_cond_t rfl y (Zc (Zd (Za rfl rfl (Zp F37_1 rfl rfl rfl (Za rfl rfl (Zn ((l).f2) A24 rfl rfl rfl (Za rfl rfl (Zp F82_1 rfl rfl rfl (Za rfl rfl (Zn ((l).f1) A3 rfl rfl rfl ?_))))))))))
  obtain ⟨aj, aR, hm⟩ := Zg hm
  refine Za rfl rfl (Exec.index_rep S24 rfl rfl rfl ak aR ?_)
  intro bf br a8
  refine Za rfl rfl (Zw (E := (encInt .i64)) l A3 rfl rfl rfl a8 ?_)
  intro bz aS
  obtain rfl := encInt_val.1 aS
  refine Za rfl rfl (Exec.build rfl (parts_cons (c := [Value.string (⟨#[102, 108, 117, 101, 110, 116]⟩)]) (cells_of rfl rfl) (parts_cons (c := [Vi (aj)]) (cells_of rfl rfl) parts_nil)) (v := Value.agg #[Value.string (⟨#[102, 108, 117, 101, 110, 116]⟩), Vi (aj), Value.slice none 0 0]) (fun _ => by kernel_rfl) (Za rfl rfl (Exec.store_box (ds := [Value.string (⟨#[102, 108, 117, 101, 110, 116]⟩), Vi (aj), Value.slice none 0 0]) (es := [Value.string (⟨#[102, 108, 117, 101, 110, 116]⟩), Vi (aj), Value.slice none 0 0]) l A82 rfl rfl rfl rfl (Zj rfl (Zj rfl (Zj rfl one_nil))) (Nat.le_of_ble_eq_true rfl) rfl ?_)))
  intro b4 aw
  refine Zb (Ze (W_ret (at_ret ?_)))
  have bi := Zu hm
  subst r
  refine ⟨_, retG1 rfl ⟨_, _, rfl, cellRes (aw) A82⟩, ?_⟩
  exact ⟨s, (Value.slice none 0 0), (Zv _), (((aw).drop).drop).drop, rfl, (SliceRep.nil _ _)⟩
 refine W_cond_f rfl y ?_
 replace y := Zk y
 refine W_skip (Ze (Zc (Zd (Za rfl rfl (Zp F82_0 rfl rfl rfl (Za rfl rfl (Zn ((l).f1) A9 rfl rfl rfl (Za rfl rfl (Zp F82_1 rfl rfl rfl (Za rfl rfl (Zn ((l).f1) A3 rfl rfl rfl (Za rfl rfl (Exec.build rfl (parts_cons (c := [Value.string (a.Op)]) (cells_of rfl rfl) (parts_cons (c := [Vi (a.N)]) (cells_of rfl rfl) parts_nil)) (v := Value.agg #[Value.string (a.Op), Vi (a.N), Value.slice none 0 0]) (fun _ => by kernel_rfl) (Za rfl rfl (Exec.alloc (cs := [Value.string (⟨#[]⟩), Vi (0), Value.slice none 0 0]) l Z82 rfl rfl ?_)))))))))))))))
 intro af b5 aF
 refine Za rfl rfl (Exec.store_box (ds := [Value.string (a.Op), Vi (a.N), Value.slice none 0 0]) (es := [Value.string (a.Op), Vi (a.N), Value.slice none 0 0]) aF A82 rfl rfl rfl rfl (Zj rfl (Zj rfl (Zj rfl one_nil))) (Nat.le_of_ble_eq_true rfl) rfl ?_)
 intro b6 aG
 refine Zb (Ze (Zc (Zc (Zd (Za rfl rfl (Zo (v := Vi (0)) rfl rfl (Zb (Ze ?_))))))))
 obtain ⟨au, aA, bp, aL, aK⟩ := ctl_some hm
 refine W_mid (M := fun f' w' => ∃ s', (au = .next s' ∨ au = .brk s') ∧ (un2 fun (a1 : Int) (a6 : (List GExpr)) => ∃ (a4 : PHeap) (q : Value), PHeap.le s a4 ∧ St w0 a4 (Res.box ac 37 [i, j, k] :: Res.box ad 82 [Value.string (a.Op), Vi (a.N), m] :: Res.box ae 82 [Value.string (⟨#[]⟩), Vi (0), Value.slice none 0 0] :: Res.box af 82 [Value.string (a.Op), Vi (a.N), q] :: Res.arr encGExpr 82 q a6 :: H) w' ∧ f' 2 = Value.pointer (some ⟨ac, 0, none⟩) ∧ f' 3 = Value.pointer (some ⟨ad, 0, none⟩) ∧ f' 4 = Value.pointer (some ⟨ae, 0, none⟩) ∧ f' 5 = Value.pointer (some ⟨af, 0, none⟩) ∧ f' 6 = Vi (a1)) s') ?_ ?_
 ·refine W_block (W_while (fun s' f' w' => (un2 fun (u : Int) (a7 : (List GExpr)) => ∃ (a5 : PHeap) (ai : Value), PHeap.le s a5 ∧ St w0 a5 (Res.box ac 37 [i, j, k] :: Res.box ad 82 [Value.string (a.Op), Vi (a.N), m] :: Res.box ae 82 [Value.string (⟨#[]⟩), Vi (0), Value.slice none 0 0] :: Res.box af 82 [Value.string (a.Op), Vi (a.N), ai] :: Res.arr encGExpr 82 ai a7 :: H) w' ∧ f' 2 = Value.pointer (some ⟨ac, 0, none⟩) ∧ f' 3 = Value.pointer (some ⟨ad, 0, none⟩) ∧ f' 4 = Value.pointer (some ⟨ae, 0, none⟩) ∧ f' 5 = Value.pointer (some ⟨af, 0, none⟩) ∧ f' 6 = Vi (u)) s') aA ?_ ?_)
  ·have aH := aG.nilArr encGExpr 82
   exact ⟨s, (Value.slice none 0 0), (Zv _), ((((aH).f1).f2).f3).f4, rfl, rfl, rfl, rfl, rfl⟩
  intro bd av bn b7 aB b aM
  obtain ⟨u, a7⟩ := bd
  replace b := un2_eq b
  obtain ⟨ba, ai, o, n, ao, ag, a2, x, ah⟩ := aB
  refine Zc (Zc (Zd (Za rfl rfl (Zm (v := Vi (u)) rfl ah (Za rfl rfl (Zp F82_2 rfl ag rfl (Za rfl rfl (Zn ((n).f1) A80 rfl rfl rfl (Za rfl rfl (Zr S80 rfl rfl (al.mono o) (Za rfl rfl (Zq rfl rfl rfl (Zb (Ze ?_))))))))))))))
  rcases ite_some b with ⟨z, b⟩ | ⟨z, b⟩
  ·refine W_cond_t rfl z (W_skip (Ze (Zc (W_block (W_dl (n0 := 11) (qs 0 8 (.e 8 [0, 1] (.e 9 [0, 1] (.e 10 [] .done)))) hmix (by kernel_rfl) (by kernel_rfl) (DL_q rfl rfl (Zp F82_2 rfl x rfl ⟨rfl, ?_⟩)))))))
   refine DL_q rfl rfl (Zn ((n.drew).f3) A80 rfl rfl rfl ⟨rfl, ?_⟩)
   refine DL_q rfl rfl (Exec.load_box_agg (ds := [i, j, k]) (n.drew) A37 rfl ao rfl ⟨rfl, ?_⟩)
   refine DL_q rfl rfl (Zp F82_2 rfl ag rfl ⟨rfl, ?_⟩)
   refine DL_q rfl rfl (Zn ((n.drew).f1) A80 rfl rfl rfl ⟨rfl, ?_⟩)
   refine DL_q rfl rfl (Zm (v := Vi (u)) rfl ah ⟨rfl, ?_⟩)
   obtain ⟨bE, aT, b⟩ := Zg b
   refine DL_q rfl rfl (Exec.index_repE S80 rfl rfl rfl (al.mono o) aT ?_)
   intro bg bs a9 bj
   refine ⟨rfl, ?_⟩
   refine DL_q rfl rfl (Zw (E := encGExpr) n.drew A82 rfl rfl rfl a9 ?_)
   intro b0 aU
   obtain ⟨bx, rfl, aX⟩ := encGExpr_val.1 aU
   refine ⟨rfl, ?_⟩
   obtain ⟨d, aV, b⟩ := Zg b
   refine DL_e rfl rfl (Tc rfl rfl rfl (Zi rfl (Zi rfl args_nil)) (ih aV n.drew (aq.mono o) (ak.mono o) (ar.mono o) aX).r ?_)
   rintro _ b8 ⟨bb, ab, aN, ax, rfl, aY⟩
   refine ⟨(ag_cons (ag_r rfl rfl (Zp F82_2 rfl x rfl ⟨rfl, rfl⟩)) (ag_cons (ag_r rfl rfl (Zn ((ax).f3) A80 rfl rfl rfl ⟨rfl, rfl⟩)) ag_nil)), ?_⟩
   refine DL_e rfl rfl (Exec.buildSlice (Te := 82) (cs := [Value.string (d.Op), Vi (d.N), ab]) ax rfl (parts_cons (c := [Value.string (d.Op), Vi (d.N), ab]) (cells_of rfl rfl) parts_nil) (fun _ => by kernel_rfl) ?_)
   intro bh b9 ay
   refine ⟨(ag_cons (ag_r rfl rfl (Zp F82_2 rfl x rfl ⟨rfl, rfl⟩)) (ag_cons (ag_r rfl rfl (Zn ((ay).f4) A80 rfl rfl rfl ⟨rfl, rfl⟩)) ag_nil)), ?_⟩
   obtain ⟨bq, aW, b⟩ := Zg b
   refine DL_e rfl rfl (Exec.append_box (E := encGExpr) (ys := [d]) (ay).f5 S80 Z82 rfl (by decide) rfl rfl rfl rfl ⟨[Value.string (d.Op), Vi (d.N), ab], [], rfl, ((encGExpr_iff _ _ _).2 ⟨[Value.string (d.Op)], [Vi (d.N), ab], rfl, rfl, ⟨[Vi (d.N)], [ab], rfl, rfl, ⟨_, rfl, aY⟩⟩⟩), rfl⟩ rfl aW ?_)
   intro ap bA am
   refine ⟨ag_nil, ?_⟩
   refine DL_done (Za rfl rfl (Zp F82_2 rfl x rfl (Za rfl rfl (Exec.store_box (ds := [ap]) (es := [Value.string (a.Op), Vi (a.N), ap]) (am).f4 A80 rfl rfl rfl (cells_one (((am).f4).f1).arr_one) (Zj (((am).f4).f1).arr_one one_nil) (Nat.le_of_ble_eq_true rfl) rfl ?_))))
   intro bB aI
   refine Zb (ib_normal (Ze (Zd (Za rfl rfl (Zm (v := Vi (u)) rfl ah (Za rfl rfl (Exec.add rfl rfl rfl (Za rfl rfl (Zo (v := Vi (IntKind.i64.wrap (u + 1))) rfl rfl (Zb (Ze ?_)))))))))))
   have bk := Zu b
   subst av
   refine ⟨_, rfl, ?_⟩; exact ⟨bb, ap, (Zt o aN), (((((aI).f1).f1).f4).f4).f4, ao, ag, a2, x, rfl⟩
  refine W_cond_f rfl z ?_
  replace z := Zk z
  refine W_exit (at_exit (at_exit (ib_here (Ze ?_))))
  have bl := Zu b
  subst av
  refine ⟨_, .inr (aM (by intro _ h; cases h)), ?_⟩; exact ⟨ba, ai, o, (((((n).f4).f4).f4).f4).f4, ao, ag, a2, x, ah⟩
 rintro bo bC ⟨be, a0, aC⟩
 have hm := a0.elim (aL _) (aK _)
 clear a0
 obtain ⟨a1, a6⟩ := be
 replace hm := un2_eq hm
 obtain ⟨bw, q, aO, an, bt, bu, a3, aQ, bv⟩ := aC
 refine (Ze (Zc (Zd (Za rfl rfl (Exec.load_box_agg (ds := [Value.string (a.Op), Vi (a.N), q]) ((an).f3) A82 rfl aQ rfl (Za rfl rfl (Exec.store_box (ds := [Value.string (a.Op), Vi (a.N), q]) (es := [Value.string (a.Op), Vi (a.N), q]) (an).f2 A82 rfl a3 rfl rfl (Zj rfl (Zj rfl (Zj (((an).f2).f4).arr_one one_nil))) (Nat.le_of_ble_eq_true rfl) rfl ?_)))))))
 intro bD az
 refine Zb (Ze (W_ret ?_))
 have bm := Zu hm
 subst r
 refine ⟨_, retG1 rfl ⟨_, _, a3, cellRes (az) A82⟩, ?_⟩
 obtain ⟨bc, aP, aJ, aZ⟩ := (az).f4.freezeArr
 exact ⟨bc, q, (Zt aO aP), ((((aJ).drop).drop).drop).drop, rfl, aZ⟩
theorem ref19_Map_expr_sim {fu : Nat} : ∀ {w0 w : World} {s : PHeap} {H : List Res} {b : ref19_Map} {a : GExpr} {f : Value} {g : Value} {h : Value} {i : Value} {r : GExpr} (hm : ref19_Map_expr_p fu b a = some r) (hS : St w0 s (H) w) (k : SliceRep (encInt .i64) s f b.Atoms) (l : SliceRep (encInt .i64) s g b.Fluents) (m : SliceRep (encInt .i64) s h b.Ops) (n : SliceRep encGExpr s i a.Kids), Calls Try.prog 84 #[Value.agg #[f, g, h], Value.agg #[Value.string (a.Op), Vi (a.N), i]] w fun e w' => ∃ v, e = .returned v ∧ ((fun (d : GExpr) => ∃ (c : PHeap) (j : Value), PHeap.le s c ∧ St w0 c (H) w' ∧ v = Value.agg #[Value.string (d.Op), Vi (d.N), j] ∧ SliceRep encGExpr c j d.Kids) r) := by
 induction fu with
 | zero => intros; rename_i hm _ _ _ _ _; rw [ref19_Map_expr_p] at hm; cases hm
 | succ fu ih => exact ref19_Map_expr_step ih
theorem ref19_Map_cond_sim {w0 w : World} {s : PHeap} {H : List Res} {fu : Nat} {a9 : ref19_Map} {a7 : Cond} {t : Value} {u : Value} {x : Value} {ae : Value} {af : Value} {ag : Value} {r : Cond} (hm : ref19_Map_cond_p fu a9 a7 = some r) (hS : St w0 s (H) w) (a5 : SliceRep (encInt .i64) s t a9.Atoms) (bc : SliceRep (encInt .i64) s u a9.Fluents) (bd : SliceRep (encInt .i64) s x a9.Ops) (be : SliceRep (encInt .i64) s ae a7.Pos) (bf : SliceRep (encInt .i64) s af a7.Neg) (a6 : SliceRep encGTest s ag a7.Tests) :
  Calls Try.prog 41 #[Value.agg #[t, u, x], Value.agg #[ae, af, ag]] w fun e w' => ∃ v, e = .returned v ∧ ((fun (bb : Cond) => ∃ (a4 : PHeap) (bB : Value) (bC : Value) (bD : Value), PHeap.le s a4 ∧ St w0 a4 (H) w' ∧ v = Value.agg #[bB, bC, bD] ∧ SliceRep (encInt .i64) a4 bB bb.Pos ∧ SliceRep (encInt .i64) a4 bC bb.Neg ∧ SliceRep encGTest a4 bD bb.Tests) r) := by
 unfold ref19_Map_cond_p at hm
 refine calls_of_W Try.func41 rfl rfl (Zc (Zd (Za rfl rfl (Exec.box (cs := [t, u, x]) hS rfl rfl rfl ?_))))
 intro l ee bZ
 refine Za rfl rfl (Exec.box (cs := [ae, af, ag]) bZ rfl rfl rfl ?_)
 intro m ef ca
 refine Za rfl rfl (Exec.alloc (cs := [Value.slice none 0 0, Value.slice none 0 0, Value.slice none 0 0]) ca Z47 rfl rfl ?_)
 intro n eg cb
 refine Zb (Ze (Zc (Zd (Za rfl rfl (Exec.alloc (cs := [Value.slice none 0 0, Value.slice none 0 0, Value.slice none 0 0]) cb Z47 rfl rfl ?_)))))
 intro o eh cc
 refine Zb (Ze (Zc (Zc (Zd (Za rfl rfl (Zo (v := Vi (0)) rfl rfl (Zb (Ze ?_))))))))
 obtain ⟨bg, bQ, dA, cr, co⟩ := ctl_some hm
 refine W_mid (M := fun f' w' => ∃ s', (bg = .next s' ∨ bg = .brk s') ∧ (un2 fun (bu : Int) (au : (List Int)) => ∃ (b3 : PHeap) (d : Value), PHeap.le s b3 ∧ St w0 b3 (Res.box l 37 [t, u, x] :: Res.box m 47 [ae, af, ag] :: Res.box n 47 [Value.slice none 0 0, Value.slice none 0 0, Value.slice none 0 0] :: Res.box o 47 [d, Value.slice none 0 0, Value.slice none 0 0] :: Res.arr (encInt .i64) 3 d au :: H) w' ∧ f' 2 = Value.pointer (some ⟨l, 0, none⟩) ∧ f' 3 = Value.pointer (some ⟨m, 0, none⟩) ∧ f' 4 = Value.pointer (some ⟨n, 0, none⟩) ∧ f' 5 = Value.pointer (some ⟨o, 0, none⟩) ∧ f' 6 = Vi (bu)) s') ?_ ?_
 ·refine W_block (W_while (fun s' f' w' => (un2 fun (aq : Int) (bE : (List Int)) => ∃ (b4 : PHeap) (aE : Value), PHeap.le s b4 ∧ St w0 b4 (Res.box l 37 [t, u, x] :: Res.box m 47 [ae, af, ag] :: Res.box n 47 [Value.slice none 0 0, Value.slice none 0 0, Value.slice none 0 0] :: Res.box o 47 [aE, Value.slice none 0 0, Value.slice none 0 0] :: Res.arr (encInt .i64) 3 aE bE :: H) w' ∧ f' 2 = Value.pointer (some ⟨l, 0, none⟩) ∧ f' 3 = Value.pointer (some ⟨m, 0, none⟩) ∧ f' 4 = Value.pointer (some ⟨n, 0, none⟩) ∧ f' 5 = Value.pointer (some ⟨o, 0, none⟩) ∧ f' 6 = Vi (aq)) s') bQ ?_ ?_)
  ·have cd := cc.nilArr (encInt .i64) 3
   exact ⟨s, (Value.slice none 0 0), (Zv _), ((((cd).f1).f2).f3).f4, rfl, rfl, rfl, rfl, rfl⟩
  intro cZ bh d4 ei bT j cv
  obtain ⟨aq, bE⟩ := cZ
  replace j := un2_eq j
  obtain ⟨b5, aE, az, aL, aT, aA, bz, a1, aB⟩ := bT
  refine Zc (Zc (Zd (Za rfl rfl (Zm (v := Vi (aq)) rfl aB (Za rfl rfl (Zp F47_0 rfl aA rfl (Za rfl rfl (Zn ((aL).f1) A24 rfl rfl rfl (Za rfl rfl (Zr S24 rfl rfl (be.mono az) (Za rfl rfl (Zq rfl rfl rfl (Zb (Ze ?_))))))))))))))
  rcases ite_some j with ⟨aw, j⟩ | ⟨aw, j⟩
  ·refine W_cond_t rfl aw (W_skip (Ze (Zc (W_block (W_dl (n0 := 13) (qs 0 11 (.e 11 [0, 1] (.e 12 [] .done))) hmix (by kernel_rfl) (by kernel_rfl) ?_)))))
   have ao := aL.drew
   refine DL_q rfl rfl (Zp F47_0 rfl a1 rfl ⟨rfl, ?_⟩)
   refine DL_q rfl rfl (Zn ((ao).f3) A24 rfl rfl rfl ⟨rfl, ?_⟩)
   refine DL_q rfl rfl (Zp F37_0 rfl aT rfl ⟨rfl, ?_⟩)
   refine DL_q rfl rfl (Zn (ao) A24 rfl rfl rfl ⟨rfl, ?_⟩)
   refine DL_q rfl rfl (Zp F47_0 rfl aA rfl ⟨rfl, ?_⟩)
   refine DL_q rfl rfl (Zn ((ao).f1) A24 rfl rfl rfl ⟨rfl, ?_⟩)
   refine DL_q rfl rfl (Zm (v := Vi (aq)) rfl aB ⟨rfl, ?_⟩)
   obtain ⟨e2, c9, j⟩ := Zg j
   refine DL_q rfl rfl (Exec.index_repE S24 rfl rfl rfl (be.mono az) c9 ?_)
   intro dg dG bI dr
   refine ⟨rfl, ?_⟩
   refine DL_q rfl rfl (Zw (E := (encInt .i64)) ao A3 rfl rfl rfl bI ?_)
   intro dY cA
   obtain rfl := encInt_val.1 cA
   refine ⟨rfl, ?_⟩
   obtain ⟨aH, cB, j⟩ := Zg j
   refine DL_q rfl rfl (Exec.index_repE S24 rfl rfl rfl (a5.mono az) cB ?_)
   intro dh dH bJ dt
   refine ⟨rfl, ?_⟩
   refine DL_q rfl rfl (Zw (E := (encInt .i64)) ao A3 rfl rfl rfl bJ ?_)
   intro dZ cC
   obtain rfl := encInt_val.1 cC
   refine ⟨rfl, ?_⟩
   refine DL_e rfl rfl (Exec.buildSlice (Te := 3) (cs := [Vi (aH)]) ao rfl (parts_cons (c := [Vi (aH)]) (cells_of rfl rfl) parts_nil) (fun _ => by kernel_rfl) ?_)
   intro di ej bn
   refine ⟨(ag_cons (ag_r rfl rfl (Zp F47_0 rfl a1 rfl ⟨rfl, rfl⟩)) (ag_cons (ag_r rfl rfl (Zn ((bn).f4) A24 rfl rfl rfl ⟨rfl, rfl⟩)) ag_nil)), ?_⟩
   obtain ⟨dD, cD, j⟩ := Zg j
   refine DL_e rfl rfl (Exec.append_box (E := (encInt .i64)) (ys := [aH]) (bn).f5 S24 Z3 rfl (by decide) rfl rfl rfl rfl ⟨[Vi (aH)], [], rfl, rfl, rfl⟩ rfl cD ?_)
   intro aY ek aM
   refine ⟨ag_nil, ?_⟩
   refine DL_done (Za rfl rfl (Zp F47_0 rfl a1 rfl (Za rfl rfl (Exec.store_box (ds := [aY]) (es := [aY, Value.slice none 0 0, Value.slice none 0 0]) (aM).f4 A24 rfl rfl rfl (cells_one (((aM).f4).f1).arr_one) (Zj (((aM).f4).f1).arr_one one_nil) (Nat.le_of_ble_eq_true rfl) rfl ?_))))
   intro el ce
   refine Zb (ib_normal (Ze (Zd (Za rfl rfl (Zm (v := Vi (aq)) rfl aB (Za rfl rfl (Exec.add rfl rfl rfl (Za rfl rfl (Zo (v := Vi (IntKind.i64.wrap (aq + 1))) rfl rfl (Zb (Ze ?_)))))))))))
   have du := Zu j
   subst bh
   refine ⟨_, rfl, ?_⟩; exact ⟨b5, aY, az, (((((ce).f1).f1).f4).f4).f4, aT, aA, bz, a1, rfl⟩
  refine W_cond_f rfl aw ?_
  replace aw := Zk aw
  refine W_exit (at_exit (at_exit (ib_here (Ze ?_))))
  have dv := Zu j
  subst bh
  refine ⟨_, .inr (cv (by intro _ h; cases h)), ?_⟩; exact ⟨b5, aE, az, (((((aL).f4).f4).f4).f4).f4, aT, aA, bz, a1, aB⟩
 rintro d5 em ⟨da, br, bW⟩
 have hm := br.elim (cr _) (co _)
 clear br
 obtain ⟨bu, au⟩ := da
 replace hm := un2_eq hm
 obtain ⟨aW, d, i, cf, c0, c1, c2, c3, dN⟩ := bW
 refine (Ze (Zc (Zc (Zd (Za rfl rfl (Zo (v := Vi (0)) rfl rfl (Zb (Ze ?_))))))))
 obtain ⟨bi, bR, dB, ct, cp⟩ := ctl_some hm
 refine W_mid (M := fun f' w' => ∃ s', (bi = .next s' ∨ bi = .brk s') ∧ (un2 fun (bv : Int) (aJ : (List Int)) => ∃ (b6 : PHeap) (y : Value), PHeap.le aW b6 ∧ St w0 b6 (Res.box l 37 [t, u, x] :: Res.box m 47 [ae, af, ag] :: Res.box n 47 [Value.slice none 0 0, Value.slice none 0 0, Value.slice none 0 0] :: Res.box o 47 [d, y, Value.slice none 0 0] :: Res.arr (encInt .i64) 3 d au :: Res.arr (encInt .i64) 3 y aJ :: H) w' ∧ f' 2 = Value.pointer (some ⟨l, 0, none⟩) ∧ f' 3 = Value.pointer (some ⟨m, 0, none⟩) ∧ f' 4 = Value.pointer (some ⟨n, 0, none⟩) ∧ f' 5 = Value.pointer (some ⟨o, 0, none⟩) ∧ f' 7 = Vi (bv)) s') ?_ ?_
 ·refine W_block (W_while (fun s' f' w' => (un2 fun (ar : Int) (bF : (List Int)) => ∃ (b7 : PHeap) (aF : Value), PHeap.le aW b7 ∧ St w0 b7 (Res.box l 37 [t, u, x] :: Res.box m 47 [ae, af, ag] :: Res.box n 47 [Value.slice none 0 0, Value.slice none 0 0, Value.slice none 0 0] :: Res.box o 47 [d, aF, Value.slice none 0 0] :: Res.arr (encInt .i64) 3 d au :: Res.arr (encInt .i64) 3 aF bF :: H) w' ∧ f' 2 = Value.pointer (some ⟨l, 0, none⟩) ∧ f' 3 = Value.pointer (some ⟨m, 0, none⟩) ∧ f' 4 = Value.pointer (some ⟨n, 0, none⟩) ∧ f' 5 = Value.pointer (some ⟨o, 0, none⟩) ∧ f' 7 = Vi (ar)) s') bR ?_ ?_)
  ·have cg := cf.nilArr (encInt .i64) 3
   exact ⟨aW, (Value.slice none 0 0), (Zv _), (((((cg).f5).f5).f5).f5).f5, c0, c1, c2, c3, rfl⟩
  intro db bj d6 en bU k cw
  obtain ⟨ar, bF⟩ := db
  replace k := un2_eq k
  obtain ⟨b8, aF, a0, aN, aU, aC, b0, a2, aD⟩ := bU
  refine Zc (Zc (Zd (Za rfl rfl (Zm (v := Vi (ar)) rfl aD (Za rfl rfl (Zp F47_1 rfl aC rfl (Za rfl rfl (Zn ((aN).f1) A24 rfl rfl rfl (Za rfl rfl (Zr S24 rfl rfl (bf.mono (Zt i a0)) (Za rfl rfl (Zq rfl rfl rfl (Zb (Ze ?_))))))))))))))
  rcases ite_some k with ⟨ax, k⟩ | ⟨ax, k⟩
  ·refine W_cond_t rfl ax (W_skip (Ze (Zc (W_block (W_dl (n0 := 13) (qs 0 11 (.e 11 [0, 1] (.e 12 [] .done))) hmix (by kernel_rfl) (by kernel_rfl) ?_)))))
   have ap := aN.drew
   refine DL_q rfl rfl (Zp F47_1 rfl a2 rfl ⟨rfl, ?_⟩)
   refine DL_q rfl rfl (Zn ((ap).f3) A24 rfl rfl rfl ⟨rfl, ?_⟩)
   refine DL_q rfl rfl (Zp F37_0 rfl aU rfl ⟨rfl, ?_⟩)
   refine DL_q rfl rfl (Zn (ap) A24 rfl rfl rfl ⟨rfl, ?_⟩)
   refine DL_q rfl rfl (Zp F47_1 rfl aC rfl ⟨rfl, ?_⟩)
   refine DL_q rfl rfl (Zn ((ap).f1) A24 rfl rfl rfl ⟨rfl, ?_⟩)
   refine DL_q rfl rfl (Zm (v := Vi (ar)) rfl aD ⟨rfl, ?_⟩)
   obtain ⟨e3, cE, k⟩ := Zg k
   refine DL_q rfl rfl (Exec.index_repE S24 rfl rfl rfl (bf.mono (Zt i a0)) cE ?_)
   intro dj dI bK dw
   refine ⟨rfl, ?_⟩
   refine DL_q rfl rfl (Zw (E := (encInt .i64)) ap A3 rfl rfl rfl bK ?_)
   intro ea cF
   obtain rfl := encInt_val.1 cF
   refine ⟨rfl, ?_⟩
   obtain ⟨aI, cG, k⟩ := Zg k
   refine DL_q rfl rfl (Exec.index_repE S24 rfl rfl rfl (a5.mono (Zt i a0)) cG ?_)
   intro dk dJ bL dx
   refine ⟨rfl, ?_⟩
   refine DL_q rfl rfl (Zw (E := (encInt .i64)) ap A3 rfl rfl rfl bL ?_)
   intro eb cH
   obtain rfl := encInt_val.1 cH
   refine ⟨rfl, ?_⟩
   refine DL_e rfl rfl (Exec.buildSlice (Te := 3) (cs := [Vi (aI)]) ap rfl (parts_cons (c := [Vi (aI)]) (cells_of rfl rfl) parts_nil) (fun _ => by kernel_rfl) ?_)
   intro dl eo bo
   refine ⟨(ag_cons (ag_r rfl rfl (Zp F47_1 rfl a2 rfl ⟨rfl, rfl⟩)) (ag_cons (ag_r rfl rfl (Zn ((bo).f4) A24 rfl rfl rfl ⟨rfl, rfl⟩)) ag_nil)), ?_⟩
   obtain ⟨dE, cI, k⟩ := Zg k
   refine DL_e rfl rfl (Exec.append_box (E := (encInt .i64)) (ys := [aI]) (bo).f6 S24 Z3 rfl (by decide) rfl rfl rfl rfl ⟨[Vi (aI)], [], rfl, rfl, rfl⟩ rfl cI ?_)
   intro aZ ep aO
   refine ⟨ag_nil, ?_⟩
   refine DL_done (Za rfl rfl (Zp F47_1 rfl a2 rfl (Za rfl rfl (Exec.store_box (ds := [aZ]) (es := [d, aZ, Value.slice none 0 0]) (aO).f4 A24 rfl rfl rfl (cells_one (((aO).f4).f1).arr_one) (Zj (((aO).f4).f1).arr_one one_nil) (Nat.le_of_ble_eq_true rfl) rfl ?_))))
   intro er ch
   refine Zb (ib_normal (Ze (Zd (Za rfl rfl (Zm (v := Vi (ar)) rfl aD (Za rfl rfl (Exec.add rfl rfl rfl (Za rfl rfl (Zo (v := Vi (IntKind.i64.wrap (ar + 1))) rfl rfl (Zb (Ze ?_)))))))))))
   have dy := Zu k
   subst bj
   refine ⟨_, rfl, ?_⟩; exact ⟨b8, aZ, a0, ((((((ch).f1).f5).f2).f5).f5).f5, aU, aC, b0, a2, rfl⟩
  refine W_cond_f rfl ax ?_
  replace ax := Zk ax
  refine W_exit (at_exit (at_exit (ib_here (Ze ?_))))
  have dz := Zu k
  subst bj
  refine ⟨_, .inr (cw (by intro _ h; cases h)), ?_⟩; exact ⟨b8, aF, a0, ((((((aN).f5).f5).f5).f5).f5).f5, aU, aC, b0, a2, aD⟩
 rintro d7 et ⟨dc, bs, bX⟩
 have hm := bs.elim (ct _) (cp _)
 clear bs
 obtain ⟨bv, aJ⟩ := dc
 replace hm := un2_eq hm
 obtain ⟨aX, y, aa, ci, c4, c5, c6, c7, dO⟩ := bX
 refine (Ze (Zc (Zc (Zd (Za rfl rfl (Zo (v := Vi (0)) rfl rfl (Zb (Ze ?_))))))))
 obtain ⟨bk, bS, dC, cu, cq⟩ := ctl_some hm
 refine W_mid (M := fun f' w' => ∃ s', (bk = .next s' ∨ bk = .brk s') ∧ (un2 fun (bw : Int) (bG : (List GTest)) => ∃ (b9 : PHeap) (an : Value), PHeap.le aX b9 ∧ St w0 b9 (Res.box l 37 [t, u, x] :: Res.box m 47 [ae, af, ag] :: Res.box n 47 [Value.slice none 0 0, Value.slice none 0 0, Value.slice none 0 0] :: Res.box o 47 [d, y, an] :: Res.arr (encInt .i64) 3 d au :: Res.arr (encInt .i64) 3 y aJ :: Res.arr encGTest 129 an bG :: H) w' ∧ f' 2 = Value.pointer (some ⟨l, 0, none⟩) ∧ f' 3 = Value.pointer (some ⟨m, 0, none⟩) ∧ f' 4 = Value.pointer (some ⟨n, 0, none⟩) ∧ f' 5 = Value.pointer (some ⟨o, 0, none⟩) ∧ f' 8 = Vi (bw)) s') ?_ ?_
 ·refine W_block (W_while (fun s' f' w' => (un2 fun (z : Int) (bH : (List GTest)) => ∃ (bA : PHeap) (aG : Value), PHeap.le aX bA ∧ St w0 bA (Res.box l 37 [t, u, x] :: Res.box m 47 [ae, af, ag] :: Res.box n 47 [Value.slice none 0 0, Value.slice none 0 0, Value.slice none 0 0] :: Res.box o 47 [d, y, aG] :: Res.arr (encInt .i64) 3 d au :: Res.arr (encInt .i64) 3 y aJ :: Res.arr encGTest 129 aG bH :: H) w' ∧ f' 2 = Value.pointer (some ⟨l, 0, none⟩) ∧ f' 3 = Value.pointer (some ⟨m, 0, none⟩) ∧ f' 4 = Value.pointer (some ⟨n, 0, none⟩) ∧ f' 5 = Value.pointer (some ⟨o, 0, none⟩) ∧ f' 8 = Vi (z)) s') bS ?_ ?_)
  ·have cj := ci.nilArr encGTest 129
   exact ⟨aX, (Value.slice none 0 0), (Zv _), ((((((cj).f6).f6).f6).f6).f6).f6, c4, c5, c6, c7, rfl⟩
  intro dd bl d8 eu bV g cx
  obtain ⟨z, bH⟩ := dd
  replace g := un2_eq g
  obtain ⟨cW, aG, p, aP, a3, ac, b1, am, ad⟩ := bV
  refine Zc (Zc (Zd (Za rfl rfl (Zm (v := Vi (z)) rfl ad (Za rfl rfl (Zp F47_2 rfl ac rfl (Za rfl rfl (Zn ((aP).f1) A45 rfl rfl rfl (Za rfl rfl (Zr S45 rfl rfl (a6.mono (Zt (Zt i aa) p)) (Za rfl rfl (Zq rfl rfl rfl (Zb (Ze ?_))))))))))))))
  rcases ite_some g with ⟨ay, g⟩ | ⟨ay, g⟩
  ·refine W_cond_t rfl ay (W_skip (Ze (Zc (W_block (W_dl (n0 := 27) (qs 0 15 (qs 16 7 (.e 15 [0, 1, 2, 3, 4, 5, 6, 7, 16, 17, 18, 19, 20, 21, 22] (.e 23 [0, 1, 2, 3, 4, 5, 6, 7] (.q 24 (.e 25 [0, 1] (.e 26 [] .done))))))) hmix (by kernel_rfl) (by kernel_rfl) ?_)))))
   have ab := aP.drew
   refine DL_q rfl rfl (Zp F47_2 rfl am rfl ⟨rfl, ?_⟩)
   refine DL_q rfl rfl (Zn ((ab).f3) A45 rfl rfl rfl ⟨rfl, ?_⟩)
   refine DL_q rfl rfl (Zp F47_2 rfl ac rfl ⟨rfl, ?_⟩)
   refine DL_q rfl rfl (Zn ((ab).f1) A45 rfl rfl rfl ⟨rfl, ?_⟩)
   refine DL_q rfl rfl (Zm (v := Vi (z)) rfl ad ⟨rfl, ?_⟩)
   obtain ⟨ak, aV, g⟩ := Zg g
   refine DL_q rfl rfl (Exec.index_repE S45 rfl rfl rfl (a6.mono (Zt (Zt i aa) p)) aV ?_)
   intro dm dK aK bm
   refine ⟨rfl, ?_⟩
   refine DL_q rfl rfl (Zp F129_0 rfl rfl rfl ⟨rfl, ?_⟩)
   refine DL_q rfl rfl (Zw (E := encStr) ab A9 rfl rfl rfl (aK.sub (Sub.iso (Sub.fst (Sub.refl _))) rfl) ?_)
   intro df cJ
   obtain rfl : df = Value.string (ak.Op) := encStr_val.1 cJ
   refine ⟨rfl, ?_⟩
   refine DL_q rfl rfl (Exec.load_box_agg (ds := [t, u, x]) (ab) A37 rfl a3 rfl ⟨rfl, ?_⟩)
   refine DL_q rfl rfl (Zp F47_2 rfl ac rfl ⟨rfl, ?_⟩)
   refine DL_q rfl rfl (Zn ((ab).f1) A45 rfl rfl rfl ⟨rfl, ?_⟩)
   refine DL_q rfl rfl (Zm (v := Vi (z)) rfl ad ⟨rfl, ?_⟩)
   refine DL_q rfl rfl (Exec.index_repE S45 rfl rfl rfl (a6.mono (Zt (Zt i aa) p)) aV ?_)
   intro dn dL bM d0
   refine ⟨rfl, ?_⟩
   refine DL_q rfl rfl (Zp F129_1 rfl rfl rfl ⟨rfl, ?_⟩)
   refine DL_q rfl rfl (Zw (E := encGExpr) ab A82 rfl rfl rfl (bM.sub (Sub.iso (Sub.snd (Sub.fst (Sub.refl _)) rfl)) rfl) ?_)
   intro ec cK
   obtain ⟨dW, rfl, cP⟩ := encGExpr_val.1 cK
   refine ⟨rfl, ?_⟩
   refine DL_q rfl rfl (Exec.load_box_agg (ds := [t, u, x]) (ab) A37 rfl a3 rfl ⟨rfl, ?_⟩)
   refine DL_q rfl rfl (Zp F47_2 rfl ac rfl ⟨rfl, ?_⟩)
   refine DL_q rfl rfl (Zn ((ab).f1) A45 rfl rfl rfl ⟨rfl, ?_⟩)
   refine DL_q rfl rfl (Zm (v := Vi (z)) rfl ad ⟨rfl, ?_⟩)
   refine DL_q rfl rfl (Exec.index_repE S45 rfl rfl rfl (a6.mono (Zt (Zt i aa) p)) aV ?_)
   intro dp dM bN bO
   refine ⟨rfl, ?_⟩
   refine DL_q rfl rfl (Zp F129_2 rfl rfl rfl ⟨rfl, ?_⟩)
   refine DL_q rfl rfl (Exec.load_atR (E := encGExpr) ab A82 rfl rfl rfl (bN.sub (Sub.iso (Sub.snd (Sub.snd (Sub.refl _) rfl) rfl)) rfl) ?_)
   intro ed cL bP
   obtain ⟨dX, rfl, cQ⟩ := encGExpr_val.1 cL
   refine ⟨rfl, ?_⟩
   obtain ⟨a, cM, g⟩ := Zg g
   refine DL_e rfl rfl (Tc rfl rfl rfl (Zi rfl (Zi rfl args_nil)) (ref19_Map_expr_sim cM ab (a5.mono (Zt (Zt i aa) p)) (bc.mono (Zt (Zt i aa) p)) (bd.mono (Zt (Zt i aa) p)) cP).r ?_)
   rintro _ ev ⟨dS, ah, aj, al, rfl, cR⟩
   refine ⟨(ag_cons (ag_r rfl rfl (Zp F47_2 rfl am rfl ⟨rfl, rfl⟩)) (ag_cons (ag_r rfl rfl (Zn ((al).f3) A45 rfl rfl rfl ⟨rfl, rfl⟩)) (ag_cons (ag_r rfl rfl (Zp F47_2 rfl ac rfl ⟨rfl, rfl⟩)) (ag_cons (ag_r rfl rfl (Zn ((al).f1) A45 rfl rfl rfl ⟨rfl, rfl⟩)) (ag_cons (ag_r rfl rfl (Zm (v := Vi (z)) rfl ad ⟨rfl, rfl⟩)) (ag_cons (ag_r rfl rfl (Exec.index_run rfl rfl rfl bm ⟨rfl, rfl⟩)) (ag_cons (ag_r rfl rfl (Zp F129_0 rfl rfl rfl ⟨rfl, rfl⟩)) (ag_cons (ag_r rfl rfl (Zw (E := encStr) al A9 rfl rfl rfl ((aK.sub (Sub.iso (Sub.fst (Sub.refl _))) rfl).mono aj) (fun _ q => ⟨rfl, encStr_val.1 q⟩))) (ag_cons (ag_r rfl rfl (Exec.load_box_agg (ds := [t, u, x]) (al) A37 rfl a3 rfl ⟨rfl, rfl⟩)) (ag_cons (ag_r rfl rfl (Zp F47_2 rfl ac rfl ⟨rfl, rfl⟩)) (ag_cons (ag_r rfl rfl (Zn ((al).f1) A45 rfl rfl rfl ⟨rfl, rfl⟩)) (ag_cons (ag_r rfl rfl (Zm (v := Vi (z)) rfl ad ⟨rfl, rfl⟩)) (ag_cons (ag_r rfl rfl (Exec.index_run rfl rfl rfl bO ⟨rfl, rfl⟩)) (ag_cons (ag_r rfl rfl (Zp F129_2 rfl rfl rfl ⟨rfl, rfl⟩)) (ag_cons (ag_r rfl rfl (Exec.load_run rfl rfl (bP aj al) ⟨rfl, rfl⟩)) ag_nil))))))))))))))), ?_⟩
   obtain ⟨b, cN, g⟩ := Zg g
   refine DL_e rfl rfl (Tc rfl rfl rfl (Zi rfl (Zi rfl args_nil)) (ref19_Map_expr_sim cN al (a5.mono (Zt (Zt (Zt i aa) p) aj)) (bc.mono (Zt (Zt (Zt i aa) p) aj)) (bd.mono (Zt (Zt (Zt i aa) p) aj)) (cQ.mono aj)).r ?_)
   rintro _ ew ⟨cX, ai, aR, a8, rfl, cS⟩
   refine ⟨(ag_cons (ag_r rfl rfl (Zp F47_2 rfl am rfl ⟨rfl, rfl⟩)) (ag_cons (ag_r rfl rfl (Zn ((a8).f3) A45 rfl rfl rfl ⟨rfl, rfl⟩)) (ag_cons (ag_r rfl rfl (Zp F47_2 rfl ac rfl ⟨rfl, rfl⟩)) (ag_cons (ag_r rfl rfl (Zn ((a8).f1) A45 rfl rfl rfl ⟨rfl, rfl⟩)) (ag_cons (ag_r rfl rfl (Zm (v := Vi (z)) rfl ad ⟨rfl, rfl⟩)) (ag_cons (ag_r rfl rfl (Exec.index_run rfl rfl rfl bm ⟨rfl, rfl⟩)) (ag_cons (ag_r rfl rfl (Zp F129_0 rfl rfl rfl ⟨rfl, rfl⟩)) (ag_cons (ag_r rfl rfl (Zw (E := encStr) a8 A9 rfl rfl rfl ((aK.sub (Sub.iso (Sub.fst (Sub.refl _))) rfl).mono (Zt aj aR)) (fun _ q => ⟨rfl, encStr_val.1 q⟩))) ag_nil)))))))), ?_⟩
   refine DL_q rfl rfl (Exec.build rfl (parts_cons (c := [Value.string (ak.Op)]) (cells_of rfl rfl) (parts_cons (c := [Value.string (a.Op), Vi (a.N), ah]) (cells_of rfl rfl) (parts_cons (c := [Value.string (b.Op), Vi (b.N), ai]) (cells_of rfl rfl) parts_nil))) (v := Value.agg #[Value.string (ak.Op), Value.string (a.Op), Vi (a.N), ah, Value.string (b.Op), Vi (b.N), ai]) (fun _ => by kernel_rfl) ⟨rfl, ?_⟩)
   refine DL_e rfl rfl (Exec.buildSlice (Te := 129) (cs := [Value.string (ak.Op), Value.string (a.Op), Vi (a.N), ah, Value.string (b.Op), Vi (b.N), ai]) a8 rfl (parts_cons (c := [Value.string (ak.Op), Value.string (a.Op), Vi (a.N), ah, Value.string (b.Op), Vi (b.N), ai]) (cells_of rfl rfl) parts_nil) (fun _ => by kernel_rfl) ?_)
   intro dq ex bp
   refine ⟨(ag_cons (ag_r rfl rfl (Zp F47_2 rfl am rfl ⟨rfl, rfl⟩)) (ag_cons (ag_r rfl rfl (Zn ((bp).f4) A45 rfl rfl rfl ⟨rfl, rfl⟩)) ag_nil)), ?_⟩
   obtain ⟨dF, cO, g⟩ := Zg g
   refine DL_e rfl rfl (Exec.append_box (E := encGTest) (ys := [(⟨ak.Op, a, b⟩ : GTest)]) (bp).f7 S45 Z129 rfl (by decide) rfl rfl rfl rfl ⟨[Value.string (ak.Op), Value.string (a.Op), Vi (a.N), ah, Value.string (b.Op), Vi (b.N), ai], [], rfl, ⟨[Value.string (ak.Op)], [Value.string (a.Op), Vi (a.N), ah, Value.string (b.Op), Vi (b.N), ai], rfl, rfl, ⟨[Value.string (a.Op), Vi (a.N), ah], [Value.string (b.Op), Vi (b.N), ai], rfl, ((encGExpr_iff _ _ _).2 ⟨[Value.string (a.Op)], [Vi (a.N), ah], rfl, rfl, ⟨[Vi (a.N)], [ah], rfl, rfl, ⟨_, rfl, (cR.mono aR)⟩⟩⟩), ((encGExpr_iff _ _ _).2 ⟨[Value.string (b.Op)], [Vi (b.N), ai], rfl, rfl, ⟨[Vi (b.N)], [ai], rfl, rfl, ⟨_, rfl, cS⟩⟩⟩)⟩⟩, rfl⟩ rfl cO ?_)
   intro ba ey aQ
   refine ⟨ag_nil, ?_⟩
   refine DL_done (Za rfl rfl (Zp F47_2 rfl am rfl (Za rfl rfl (Exec.store_box (ds := [ba]) (es := [d, y, ba]) (aQ).f4 A45 rfl rfl rfl (cells_one (((aQ).f4).f1).arr_one) (Zj (((aQ).f4).f1).arr_one one_nil) (Nat.le_of_ble_eq_true rfl) rfl ?_))))
   intro ez ck
   refine Zb (ib_normal (Ze (Zd (Za rfl rfl (Zm (v := Vi (z)) rfl ad (Za rfl rfl (Exec.add rfl rfl rfl (Za rfl rfl (Zo (v := Vi (IntKind.i64.wrap (z + 1))) rfl rfl (Zb (Ze ?_)))))))))))
   have d1 := Zu g
   subst bl
   refine ⟨_, rfl, ?_⟩; exact ⟨cX, ba, (Zt (Zt p aj) aR), (((((((ck).f1).f6).f6).f3).f6).f6).f6, a3, ac, b1, am, rfl⟩
  refine W_cond_f rfl ay ?_
  replace ay := Zk ay
  refine W_exit (at_exit (at_exit (ib_here (Ze ?_))))
  have d2 := Zu g
  subst bl
  refine ⟨_, .inr (cx (by intro _ h; cases h)), ?_⟩; exact ⟨cW, aG, p, (((((((aP).f6).f6).f6).f6).f6).f6).f6, a3, ac, b1, am, ad⟩
 rintro d9 e0 ⟨de, bt, bY⟩
 have hm := bt.elim (cu _) (cq _)
 clear bt
 obtain ⟨bw, bG⟩ := de
 replace hm := un2_eq hm
 obtain ⟨dT, an, cy, av, dP, dQ, b2, c8, dR⟩ := bY
 refine (Ze (Zc (Zd (Za rfl rfl (Exec.load_box_agg (ds := [d, y, an]) ((av).f3) A47 rfl c8 rfl (Za rfl rfl (Exec.store_box (ds := [d, y, an]) (es := [d, y, an]) (av).f2 A47 rfl b2 rfl rfl (Zj (((av).f2).f4).arr_one (Zj (((av).f2).f5).arr_one (Zj (((av).f2).f6).arr_one one_nil))) (Nat.le_of_ble_eq_true rfl) rfl ?_)))))))
 intro e1 bq
 refine Zb (Ze (W_ret ?_))
 have d3 := Zu hm
 subst r
 refine ⟨_, retG1 rfl ⟨_, _, b2, cellRes (bq) A47⟩, ?_⟩
 obtain ⟨dU, cz, cl, cT⟩ := (bq).f4.freezeArr
 obtain ⟨dV, bx, cm, cU⟩ := (cl).f4.freezeArr
 obtain ⟨cY, aS, cn, cV⟩ := (cm).f4.freezeArr
 exact ⟨cY, d, y, an, (Zt (Zt (Zt (Zt (Zt i aa) cy) cz) bx) aS), ((((cn).drop).drop).drop).drop, rfl, (cT.mono (Zt bx aS)), (cU.mono aS), cV⟩
theorem ref19_Marks_Touches_sim {w0 w : World} {s : PHeap} {H : List Res} {am : ref19_Marks} {a : GOp} {i : Value} {j : Value} {k : Value} {l : Value} {m : Value} {n : Value} {o : Value} {r : Bool} (hm : ref19_Marks_Touches_p am a = some r) (hS : St w0 s (H) w) (a9 : SliceRep encBool s i am.Atoms) (aA : SliceRep encBool s j am.Fluents) (bm : SliceRep (encInt .i64) s k a.Pre.Pos) (bn : SliceRep (encInt .i64) s l a.Pre.Neg) (bo : SliceRep encGTest s m a.Pre.Tests) (au : SliceRep encGChange s n a.Changes) (av : SliceRep encGAssign s o a.Assigns) :
  Calls Try.prog 42 #[Value.agg #[i, j], Value.agg #[Value.string (a.Name), Vi (a.Cost), k, l, m, n, o]] w fun e w' => ∃ v, e = .returned v ∧ ((fun (bl : Bool) => ∃ (a4 : PHeap) , PHeap.le s a4 ∧ St w0 a4 (H) w' ∧ v = Value.bool (bl)) r) := by
 unfold ref19_Marks_Touches_p at hm
 refine calls_of_W Try.func42 rfl rfl (Zc (Zd (Za rfl rfl (Exec.box (cs := [i, j]) hS rfl rfl rfl ?_))))
 intro d bN aL
 refine Za rfl rfl (Exec.box (cs := [Value.string (a.Name), Vi (a.Cost), k, l, m, n, o]) aL rfl rfl rfl ?_)
 intro g bO aM
 refine Za rfl rfl (Zo (v := Value.bool (false)) rfl rfl (Zb (Ze (Zc (Zc (Zd (Za rfl rfl (Zo (v := Vi (0)) rfl rfl (Zb (Ze ?_))))))))))
 obtain ⟨aw, aF, aX, aT, aR⟩ := ctl_some hm
 refine W_mid (M := fun f' w' => ∃ s', (aw = .next s' ∨ aw = .brk s') ∧ (fun (a2 : Int) => ∃ (a5 : PHeap) , PHeap.le s a5 ∧ St w0 a5 (Res.box d 64 [i, j] :: Res.box g 51 [Value.string (a.Name), Vi (a.Cost), k, l, m, n, o] :: H) w' ∧ f' 2 = Value.pointer (some ⟨d, 0, none⟩) ∧ f' 3 = Value.pointer (some ⟨g, 0, none⟩) ∧ f' 5 = Vi (a2)) s') ?_ ?_
 ·refine W_block (W_while (fun s' f' w' => (fun (t : Int) => ∃ (a6 : PHeap) , PHeap.le s a6 ∧ St w0 a6 (Res.box d 64 [i, j] :: Res.box g 51 [Value.string (a.Name), Vi (a.Cost), k, l, m, n, o] :: H) w' ∧ f' 2 = Value.pointer (some ⟨d, 0, none⟩) ∧ f' 3 = Value.pointer (some ⟨g, 0, none⟩) ∧ f' 5 = Vi (t)) s') aF ?_ ?_)
  ·have aN := (aM).f1
   exact ⟨s, (Zv _), aN, rfl, rfl, rfl⟩
  intro t ai b7 bP aH b a0
  obtain ⟨ap, x, ak, an, ae, af⟩ := aH
  refine Zc (Zc (Zd (Za rfl rfl (Zm (v := Vi (t)) rfl af (Za rfl rfl (Zp F51_3 rfl ae rfl (Za rfl rfl (Zn ((ak).f1) A48 rfl rfl rfl (Za rfl rfl (Zr S48 rfl rfl (au.mono x) (Za rfl rfl (Zq rfl rfl rfl (Zb (Ze ?_))))))))))))))
  rcases ite_some b with ⟨z, b⟩ | ⟨z, b⟩
  ·refine W_cond_t rfl z (W_skip (Ze (Zc (W_block (Zc (W_dl (n0 := 10) (qs 0 10 .done) hmix (by kernel_rfl) (by kernel_rfl) ?_))))))
   have p := ak.drew
   refine DL_q rfl rfl (Zp F64_0 rfl an rfl ⟨rfl, ?_⟩)
   refine DL_q rfl rfl (Zn (p) A60 rfl rfl rfl ⟨rfl, ?_⟩)
   refine DL_q rfl rfl (Zp F51_3 rfl ae rfl ⟨rfl, ?_⟩)
   refine DL_q rfl rfl (Zn ((p).f1) A48 rfl rfl rfl ⟨rfl, ?_⟩)
   refine DL_q rfl rfl (Zm (v := Vi (t)) rfl af ⟨rfl, ?_⟩)
   obtain ⟨bT, bc, b⟩ := Zg b
   refine DL_q rfl rfl (Exec.index_repE S48 rfl rfl rfl (au.mono x) bc ?_)
   intro bp bB aB bt
   refine ⟨rfl, ?_⟩
   refine DL_q rfl rfl (Zp F58_1 rfl rfl rfl ⟨rfl, ?_⟩)
   refine DL_q rfl rfl (Zw (E := (encInt .i64)) p A3 rfl rfl rfl (aB.sub (Sub.iso (Sub.snd (Sub.fst (Sub.refl _)) rfl)) rfl) ?_)
   intro bJ bd
   obtain rfl := encInt_val.1 bd
   refine ⟨rfl, ?_⟩
   obtain ⟨bU, be, b⟩ := Zg b
   refine DL_q rfl rfl (Exec.index_repE S60 rfl rfl rfl (a9.mono x) be ?_)
   intro bq bC aC bu
   refine ⟨rfl, ?_⟩
   refine DL_q rfl rfl (Zw (E := encBool) p A4 rfl rfl rfl aC ?_)
   intro bK bf
   obtain rfl := encBool_val.1 bf
   refine ⟨rfl, ?_⟩
   refine DL_done (Zb (Ze ?_))
   rcases ite_some b with ⟨aa, b⟩ | ⟨aa, b⟩
   ·refine W_cond_t rfl aa (Zc (Zd (Za rfl rfl (Zo (v := Value.bool (true)) rfl rfl (Zb (Ze (W_ret (ib_ret (at_ret (at_ret (ib_ret (at_ret (at_ret ?_)))))))))))))
    have bv := Zu b
    subst ai
    have aV := aX _ (a0 (by intro _ h; cases h))
    have bw := Zu aV
    subst r
    refine ⟨_, ret1 rfl, ?_⟩
    exact ⟨ap, x, ((p).drop).drop, rfl⟩
   refine W_cond_f rfl aa ?_
   replace aa := Zk aa
   refine W_skip (ib_normal (Ze (Zd (Za rfl rfl (Zm (v := Vi (t)) rfl af (Za rfl rfl (Exec.add rfl rfl rfl (Za rfl rfl (Zo (v := Vi (IntKind.i64.wrap (t + 1))) rfl rfl (Zb (Ze ?_)))))))))))
   have bx := Zu b
   subst ai
   refine ⟨_, rfl, ?_⟩; exact ⟨ap, x, ((p).f1).f1, an, ae, rfl⟩
  refine W_cond_f rfl z ?_
  replace z := Zk z
  refine W_exit (at_exit (at_exit (ib_here (Ze ?_))))
  have bz := Zu b
  subst ai
  refine ⟨_, .inr (a0 (by intro _ h; cases h)), ?_⟩; exact ⟨ap, x, ((ak).f1).f1, an, ae, af⟩
 rintro b8 bQ ⟨a2, ay, aJ⟩
 have hm := ay.elim (aT _) (aR _)
 clear ay
 obtain ⟨aq, ad, aO, ba, bb, bF⟩ := aJ
 refine (Ze (Zc (Zc (Zd (Za rfl rfl (Zo (v := Vi (0)) rfl rfl (Zb (Ze ?_))))))))
 obtain ⟨ax, aG, aY, aU, aS⟩ := ctl_some hm
 refine W_mid (M := fun f' w' => ∃ s', (ax = .next s' ∨ ax = .brk s') ∧ (fun (a3 : Int) => ∃ (a7 : PHeap) , PHeap.le aq a7 ∧ St w0 a7 (Res.box d 64 [i, j] :: Res.box g 51 [Value.string (a.Name), Vi (a.Cost), k, l, m, n, o] :: H) w' ∧ f' 2 = Value.pointer (some ⟨d, 0, none⟩) ∧ f' 3 = Value.pointer (some ⟨g, 0, none⟩) ∧ f' 6 = Vi (a3)) s') ?_ ?_
 ·refine W_block (W_while (fun s' f' w' => (fun (u : Int) => ∃ (a8 : PHeap) , PHeap.le aq a8 ∧ St w0 a8 (Res.box d 64 [i, j] :: Res.box g 51 [Value.string (a.Name), Vi (a.Cost), k, l, m, n, o] :: H) w' ∧ f' 2 = Value.pointer (some ⟨d, 0, none⟩) ∧ f' 3 = Value.pointer (some ⟨g, 0, none⟩) ∧ f' 6 = Vi (u)) s') aG ?_ ?_)
  ·have aP := (aO).f1
   exact ⟨aq, (Zv _), (aP).f1, ba, bb, rfl⟩
  intro u aj b9 bR aI c a1
  obtain ⟨ar, y, al, ao, ag, ah⟩ := aI
  refine Zc (Zc (Zd (Za rfl rfl (Zm (v := Vi (u)) rfl ah (Za rfl rfl (Zp F51_4 rfl ag rfl (Za rfl rfl (Zn ((al).f1) A49 rfl rfl rfl (Za rfl rfl (Zr S49 rfl rfl (av.mono (Zt ad y)) (Za rfl rfl (Zq rfl rfl rfl (Zb (Ze ?_))))))))))))))
  rcases ite_some c with ⟨ab, c⟩ | ⟨ab, c⟩
  ·refine W_cond_t rfl ab (W_skip (Ze (Zc (W_block (Zc (W_dl (n0 := 10) (qs 0 10 .done) hmix (by kernel_rfl) (by kernel_rfl) ?_))))))
   have q := al.drew
   refine DL_q rfl rfl (Zp F64_1 rfl ao rfl ⟨rfl, ?_⟩)
   refine DL_q rfl rfl (Zn (q) A60 rfl rfl rfl ⟨rfl, ?_⟩)
   refine DL_q rfl rfl (Zp F51_4 rfl ag rfl ⟨rfl, ?_⟩)
   refine DL_q rfl rfl (Zn ((q).f1) A49 rfl rfl rfl ⟨rfl, ?_⟩)
   refine DL_q rfl rfl (Zm (v := Vi (u)) rfl ah ⟨rfl, ?_⟩)
   obtain ⟨bV, bg, c⟩ := Zg c
   refine DL_q rfl rfl (Exec.index_repE S49 rfl rfl rfl (av.mono (Zt ad y)) bg ?_)
   intro br bD aD b0
   refine ⟨rfl, ?_⟩
   refine DL_q rfl rfl (Zp F84_0 rfl rfl rfl ⟨rfl, ?_⟩)
   refine DL_q rfl rfl (Zw (E := (encInt .i64)) q A3 rfl rfl rfl (aD.sub (Sub.iso (Sub.fst (Sub.refl _))) rfl) ?_)
   intro bL bh
   obtain rfl := encInt_val.1 bh
   refine ⟨rfl, ?_⟩
   obtain ⟨bW, bi, c⟩ := Zg c
   refine DL_q rfl rfl (Exec.index_repE S60 rfl rfl rfl (aA.mono (Zt ad y)) bi ?_)
   intro bs bE aE b1
   refine ⟨rfl, ?_⟩
   refine DL_q rfl rfl (Zw (E := encBool) q A4 rfl rfl rfl aE ?_)
   intro bM bj
   obtain rfl := encBool_val.1 bj
   refine ⟨rfl, ?_⟩
   refine DL_done (Zb (Ze ?_))
   rcases ite_some c with ⟨ac, c⟩ | ⟨ac, c⟩
   ·refine W_cond_t rfl ac (Zc (Zd (Za rfl rfl (Zo (v := Value.bool (true)) rfl rfl (Zb (Ze (W_ret (ib_ret (at_ret (at_ret (ib_ret (at_ret (at_ret ?_)))))))))))))
    have b2 := Zu c
    subst aj
    have aW := aY _ (a1 (by intro _ h; cases h))
    have b3 := Zu aW
    subst r
    refine ⟨_, ret1 rfl, ?_⟩
    exact ⟨ar, (Zt ad y), ((q).drop).drop, rfl⟩
   refine W_cond_f rfl ac ?_
   replace ac := Zk ac
   refine W_skip (ib_normal (Ze (Zd (Za rfl rfl (Zm (v := Vi (u)) rfl ah (Za rfl rfl (Exec.add rfl rfl rfl (Za rfl rfl (Zo (v := Vi (IntKind.i64.wrap (u + 1))) rfl rfl (Zb (Ze ?_)))))))))))
   have b4 := Zu c
   subst aj
   refine ⟨_, rfl, ?_⟩; exact ⟨ar, y, ((q).f1).f1, ao, ag, rfl⟩
  refine W_cond_f rfl ab ?_
  replace ab := Zk ab
  refine W_exit (at_exit (at_exit (ib_here (Ze ?_))))
  have b5 := Zu c
  subst aj
  refine ⟨_, .inr (a1 (by intro _ h; cases h)), ?_⟩; exact ⟨ar, y, ((al).f1).f1, ao, ag, ah⟩
 rintro bA bS ⟨a3, az, aK⟩
 have hm := az.elim (aU _) (aS _)
 clear az
 obtain ⟨bk, aZ, aQ, bG, bH, bI⟩ := aK
 refine (Ze (Zc (Zd (Za rfl rfl (Zo (v := Value.bool (false)) rfl rfl (Zb (Ze (W_ret ?_))))))))
 have b6 := Zu hm
 subst r
 refine ⟨_, ret1 rfl, ?_⟩
 exact ⟨bk, (Zt ad aZ), ((aQ).drop).drop, rfl⟩
theorem ref18_ints_sim {w0 w : World} {s : PHeap} {H : List Res} {u : (List Int)} {y : (List Int)} {c : Value} {g : Value} {r : Bool} (hm : ref18_ints_p u y = some r) (hS : St w0 s (H) w) (o : SliceRep (encInt .i64) s c u) (x : SliceRep (encInt .i64) s g y) :
  Calls Try.prog 47 #[c, g] w fun e w' => ∃ v, e = .returned v ∧ ((fun (ay : Bool) => ∃ (ad : PHeap) , PHeap.le s ad ∧ St w0 ad (H) w' ∧ v = Value.bool (ay)) r) := by
 unfold ref18_ints_p at hm
 refine calls_of_W Try.func47 rfl rfl (Zc (Zd (Za rfl rfl (Zo (v := Value.bool (false)) rfl rfl (Zb (Ze (Zc (Zc (Zd (Za rfl rfl (Zm (v := c) rfl rfl (Za rfl rfl (Zr S24 rfl rfl o (Za rfl rfl (Zm (v := g) rfl rfl (Za rfl rfl (Zr S24 rfl rfl x (Za rfl rfl (Exec.neq rfl rfl rfl (Zb (Ze ?_)))))))))))))))))))))
 rcases ite_some hm with ⟨j, hm⟩ | ⟨j, hm⟩
 ·refine W_cond_t rfl j (Zc (Zd (Za rfl rfl (Zo (v := Value.bool (false)) rfl rfl (Zb (Ze (W_ret (at_ret ?_))))))))
  have a1 := Zu hm
  subst r
  refine ⟨_, ret1 rfl, ?_⟩
  exact ⟨s, (Zv _), hS, rfl⟩
 refine W_cond_f rfl j ?_
 replace j := Zk j
 refine W_skip (Ze (Zc (Zc (Zd (Za rfl rfl (Zo (v := Vi (0)) rfl rfl (Zb (Ze ?_))))))))
 obtain ⟨z, ai, ap, an, am⟩ := ctl_some hm
 refine W_mid (M := fun f' w' => ∃ s', (z = .next s' ∨ z = .brk s') ∧ (fun (ac : Int) => ∃ (ae : PHeap) , PHeap.le s ae ∧ St w0 ae (H) w' ∧ f' 0 = c ∧ f' 1 = g ∧ f' 5 = Vi (ac)) s') ?_ ?_
 ·refine W_block (W_while (fun s' f' w' => (fun (b : Int) => ∃ (af : PHeap) , PHeap.le s af ∧ St w0 af (H) w' ∧ f' 0 = c ∧ f' 1 = g ∧ f' 5 = Vi (b)) s') ai ?_ ?_)
  ·exact ⟨s, (Zv _), hS, rfl, rfl, rfl⟩
  intro b p a9 aI aj a ab
  obtain ⟨t, d, i, n, q, m⟩ := aj
  refine Zc (Zc (Zd (Za rfl rfl (Zm (v := Vi (b)) rfl m (Za rfl rfl (Zm (v := c) rfl n (Za rfl rfl (Zr S24 rfl rfl (o.mono d) (Za rfl rfl (Zq rfl rfl rfl (Zb (Ze ?_))))))))))))
  rcases ite_some a with ⟨k, a⟩ | ⟨k, a⟩
  ·refine W_cond_t rfl k (W_skip (Ze (Zc (W_block (Zc (W_dl (n0 := 9) (qs 0 9 .done) hmix (by kernel_rfl) (by kernel_rfl) (DL_q rfl rfl (Zm (v := c) rfl n ⟨rfl, ?_⟩))))))))
   refine DL_q rfl rfl (Zm (v := Vi (b)) rfl m ⟨rfl, ?_⟩)
   obtain ⟨aK, ar, a⟩ := Zg a
   refine DL_q rfl rfl (Exec.index_repE S24 rfl rfl rfl (o.mono d) ar ?_)
   intro az aB ag a2
   refine ⟨rfl, ?_⟩
   refine DL_q rfl rfl (Zw (E := (encInt .i64)) i.drew A3 rfl rfl rfl ag ?_)
   intro aG au
   obtain rfl := encInt_val.1 au
   refine ⟨rfl, ?_⟩
   refine DL_q rfl rfl (Zm (v := g) rfl q ⟨rfl, ?_⟩)
   refine DL_q rfl rfl (Zm (v := Vi (b)) rfl m ⟨rfl, ?_⟩)
   obtain ⟨aL, av, a⟩ := Zg a
   refine DL_q rfl rfl (Exec.index_repE S24 rfl rfl rfl (x.mono d) av ?_)
   intro a0 aC ah a3
   refine ⟨rfl, ?_⟩
   refine DL_q rfl rfl (Zw (E := (encInt .i64)) i.drew A3 rfl rfl rfl ah ?_)
   intro aH aw
   obtain rfl := encInt_val.1 aw
   refine ⟨rfl, ?_⟩
   refine DL_q rfl rfl (Exec.neq rfl rfl rfl ⟨rfl, ?_⟩)
   refine DL_done (Zb (Ze ?_))
   rcases ite_some a with ⟨l, a⟩ | ⟨l, a⟩
   ·refine W_cond_t rfl l (Zc (Zd (Za rfl rfl (Zo (v := Value.bool (false)) rfl rfl (Zb (Ze (W_ret (ib_ret (at_ret (at_ret (ib_ret (at_ret (at_ret ?_)))))))))))))
    have a4 := Zu a
    subst p
    have ao := ap _ (ab (by intro _ h; cases h))
    have a5 := Zu ao
    subst r
    refine ⟨_, ret1 rfl, ?_⟩
    exact ⟨t, d, i.drew, rfl⟩
   refine W_cond_f rfl l ?_
   replace l := Zk l
   refine W_skip (ib_normal (Ze (Zd (Za rfl rfl (Zm (v := Vi (b)) rfl m (Za rfl rfl (Exec.add rfl rfl rfl (Za rfl rfl (Zo (v := Vi (IntKind.i64.wrap (b + 1))) rfl rfl (Zb (Ze ?_)))))))))))
   have a6 := Zu a
   subst p
   refine ⟨_, rfl, ?_⟩; exact ⟨t, d, i.drew, n, q, rfl⟩
  refine W_cond_f rfl k ?_
  replace k := Zk k
  refine W_exit (at_exit (at_exit (ib_here (Ze ?_))))
  have a7 := Zu a
  subst p
  refine ⟨_, .inr (ab (by intro _ h; cases h)), ?_⟩; exact ⟨t, d, i, n, q, m⟩
 rintro aA aJ ⟨ac, aa, ak⟩
 have hm := aa.elim (an _) (am _)
 clear aa
 obtain ⟨ax, aq, al, aD, aE, aF⟩ := ak
 refine (Ze (Zc (Zd (Za rfl rfl (Zo (v := Value.bool (true)) rfl rfl (Zb (Ze (W_ret ?_))))))))
 have a8 := Zu hm
 subst r
 refine ⟨_, ret1 rfl, ?_⟩
 exact ⟨ax, aq, al, rfl⟩
theorem ref18_sameExpr_step {fu : Nat} (ih : ∀ {w0 w : World} {s : PHeap} {H : List Res} {a : GExpr} {b : GExpr} {j : Value} {k : Value} {r : Bool} (hm : ref18_sameExpr_p fu a b = some r) (hS : St w0 s (H) w) (ab : SliceRep encGExpr s j a.Kids) (ae : SliceRep encGExpr s k b.Kids), Calls Try.prog 86 #[Value.agg #[Value.string (a.Op), Vi (a.N), j], Value.agg #[Value.string (b.Op), Vi (b.N), k]] w fun e w' => ∃ v, e = .returned v ∧ ((fun (ah : Bool) => ∃ (aa : PHeap) , PHeap.le s aa ∧ St w0 aa (H) w' ∧ v = Value.bool (ah)) r)) {w0 w : World} {s : PHeap} {H : List Res} {a : GExpr} {b : GExpr} {j : Value} {k : Value} {r : Bool} (hm : ref18_sameExpr_p (fu + 1) a b = some r) (hS : St w0 s (H) w) (ab : SliceRep encGExpr s j a.Kids) (ae : SliceRep encGExpr s k b.Kids) :
  Calls Try.prog 86 #[Value.agg #[Value.string (a.Op), Vi (a.N), j], Value.agg #[Value.string (b.Op), Vi (b.N), k]] w fun e w' => ∃ v, e = .returned v ∧ ((fun (ah : Bool) => ∃ (aa : PHeap) , PHeap.le s aa ∧ St w0 aa (H) w' ∧ v = Value.bool (ah)) r) := by
 rw [ref18_sameExpr_p] at hm
 refine calls_of_W Try.func86 rfl rfl (Zc (Zd (Za rfl rfl (Exec.box (cs := [Value.string (a.Op), Vi (a.N), j]) hS rfl rfl rfl ?_))))
 intro n bh a2
 refine Za rfl rfl (Exec.box (cs := [Value.string (b.Op), Vi (b.N), k]) a2 rfl rfl rfl ?_)
 intro o bi i
 refine Za rfl rfl (Zo (v := Value.bool (false)) rfl rfl (Zb (Ze (Zc (Zc (W_mid (M := fun f' w' => ∃ (aq : PHeap) , PHeap.le s aq ∧ St w0 aq (Res.box n 82 [Value.string (a.Op), Vi (a.N), j] :: Res.box o 82 [Value.string (b.Op), Vi (b.N), k] :: H) w' ∧ f' 2 = Value.pointer (some ⟨n, 0, none⟩) ∧ f' 3 = Value.pointer (some ⟨o, 0, none⟩) ∧ f' 26 = Value.bool (((!decide (a.Op = b.Op)) || ((!decide (a.N = b.N)) || !decide ((a.Kids.length : Int) = (b.Kids.length : Int)))))) ?_ ?_))))))
 ·refine Zd (Za rfl rfl (Zp F82_0 rfl rfl rfl (Za rfl rfl (Zn ((i).f1) A9 rfl rfl rfl (Za rfl rfl (Zp F82_0 rfl rfl rfl (Za rfl rfl (Zn (i) A9 rfl rfl rfl (Za rfl rfl (Exec.str_neq rfl rfl rfl (Za rfl rfl (Zm (v := Value.bool (!decide (a.Op = b.Op))) rfl rfl ?_))))))))))))
  by_cases g : (!decide (a.Op = b.Op)) = true
  ·refine WL_passes 15 (by rw [g]; rfl) ?_
   refine Zb (Ze ?_)
   exact ⟨s, (Zv _), (i).f1, rfl, rfl, (Zx (or_t g)).symm⟩
  replace g := Zk g
  refine WL_run rfl (Zf rfl (Zx g)) rfl (Zp F82_1 rfl rfl rfl (WL_run rfl (Zf rfl (Zx g)) rfl (Zn ((i).f1) A3 rfl rfl rfl (WL_run rfl (Zf rfl (Zx g)) rfl (Zp F82_1 rfl rfl rfl (WL_run rfl (Zf rfl (Zx g)) rfl (Zn (i) A3 rfl rfl rfl (WL_run rfl (Zf rfl (Zx g)) rfl (Exec.neq rfl rfl rfl ?_)))))))))
  refine WL_passes 2 (by rw [g]; rfl) ?_
  by_cases d : (!decide (a.N = b.N)) = true
  ·refine WL_passes 8 (by rw [d]; rfl) ?_
   refine Zb (Ze ?_)
   exact ⟨s, (Zv _), (i).f1, rfl, rfl, (Zx (Eq.trans (or_f g) (or_t d))).symm⟩
  replace d := Zk d
  refine WL_run rfl (Zf rfl (Zx d)) rfl (Zp F82_2 rfl rfl rfl (WL_run rfl (Zf rfl (Zx d)) rfl (Zn ((i).f1) A80 rfl rfl rfl (WL_run rfl (Zf rfl (Zx d)) rfl (Zr S80 rfl rfl ab (WL_run rfl (Zf rfl (Zx d)) rfl (Zp F82_2 rfl rfl rfl (WL_run rfl (Zf rfl (Zx d)) rfl (Zn (i) A80 rfl rfl rfl (WL_run rfl (Zf rfl (Zx d)) rfl (Zr S80 rfl rfl ae (WL_run rfl (Zf rfl (Zx d)) rfl (Exec.neq rfl rfl rfl (Za rfl rfl (Exec.pick_f (v := Value.bool (!decide ((a.Kids.length : Int) = (b.Kids.length : Int)))) rfl (Zx d) rfl (Zb (Ze ?_)))))))))))))))))
  exact ⟨s, (Zv _), (i).f1, rfl, rfl, (Zx (Eq.trans (or_f g) (or_f d))).symm⟩
 intro aV bj a0
 obtain ⟨ad, p, aj, aA, aB, ap⟩ := a0
 refine (Ze ?_)
 rcases ite_some hm with ⟨u, hm⟩ | ⟨u, hm⟩
 ·refine W_cond_t ap u (Zc (Zd (Za rfl rfl (Zo (v := Value.bool (false)) rfl rfl (Zb (Ze (W_ret (at_ret ?_))))))))
  have aN := Zu hm
  subst r
  refine ⟨_, ret1 rfl, ?_⟩
  exact ⟨ad, p, ((aj).drop).drop, rfl⟩
 refine W_cond_f ap u ?_
 replace u := Zk u
 refine W_skip (Ze (Zc (Zc (Zd (Za rfl rfl (Zo (v := Vi (0)) rfl rfl (Zb (Ze ?_))))))))
 obtain ⟨ai, ay, a8, a6, a5⟩ := ctl_some hm
 refine W_mid (M := fun f' w' => ∃ s', (ai = .next s' ∨ ai = .brk s') ∧ (fun (an : Int) => ∃ (ar : PHeap) , PHeap.le ad ar ∧ St w0 ar (Res.box n 82 [Value.string (a.Op), Vi (a.N), j] :: Res.box o 82 [Value.string (b.Op), Vi (b.N), k] :: H) w' ∧ f' 2 = Value.pointer (some ⟨n, 0, none⟩) ∧ f' 3 = Value.pointer (some ⟨o, 0, none⟩) ∧ f' 5 = Vi (an)) s') ?_ ?_
 ·refine W_block (W_while (fun s' f' w' => (fun (m : Int) => ∃ (au : PHeap) , PHeap.le ad au ∧ St w0 au (Res.box n 82 [Value.string (a.Op), Vi (a.N), j] :: Res.box o 82 [Value.string (b.Op), Vi (b.N), k] :: H) w' ∧ f' 2 = Value.pointer (some ⟨n, 0, none⟩) ∧ f' 3 = Value.pointer (some ⟨o, 0, none⟩) ∧ f' 5 = Vi (m)) s') ay ?_ ?_)
  ·have a3 := (aj).f1
   exact ⟨ad, (Zv _), (a3).f1, aA, aB, rfl⟩
  intro m af aW bk az c am
  obtain ⟨aJ, t, l, ac, ag, z⟩ := az
  refine Zc (Zc (Zd (Za rfl rfl (Zm (v := Vi (m)) rfl z (Za rfl rfl (Zp F82_2 rfl ac rfl (Za rfl rfl (Zn (l) A80 rfl rfl rfl (Za rfl rfl (Zr S80 rfl rfl (ab.mono (Zt p t)) (Za rfl rfl (Zq rfl rfl rfl (Zb (Ze ?_))))))))))))))
  rcases ite_some c with ⟨x, c⟩ | ⟨x, c⟩
  ·refine W_cond_t rfl x (W_skip (Ze (Zc (W_block (Zc (W_dl (n0 := 12) (qs 0 10 (.e 10 [] (.q 11 .done))) hmix (by kernel_rfl) (by kernel_rfl) (DL_q rfl rfl (Zp F82_2 rfl ac rfl ⟨rfl, ?_⟩))))))))
   refine DL_q rfl rfl (Zn (l.drew) A80 rfl rfl rfl ⟨rfl, ?_⟩)
   refine DL_q rfl rfl (Zm (v := Vi (m)) rfl z ⟨rfl, ?_⟩)
   obtain ⟨bn, aC, c⟩ := Zg c
   refine DL_q rfl rfl (Exec.index_repE S80 rfl rfl rfl (ab.mono (Zt p t)) aC ?_)
   intro aL aY aw aO
   refine ⟨rfl, ?_⟩
   refine DL_q rfl rfl (Zw (E := encGExpr) l.drew A82 rfl rfl rfl aw ?_)
   intro bf aD
   obtain ⟨bd, rfl, aH⟩ := encGExpr_val.1 aD
   refine ⟨rfl, ?_⟩
   refine DL_q rfl rfl (Zp F82_2 rfl ag rfl ⟨rfl, ?_⟩)
   refine DL_q rfl rfl (Zn ((l.drew).f1) A80 rfl rfl rfl ⟨rfl, ?_⟩)
   refine DL_q rfl rfl (Zm (v := Vi (m)) rfl z ⟨rfl, ?_⟩)
   obtain ⟨bo, aE, c⟩ := Zg c
   refine DL_q rfl rfl (Exec.index_repE S80 rfl rfl rfl (ae.mono (Zt p t)) aE ?_)
   intro aM aZ ax aP
   refine ⟨rfl, ?_⟩
   refine DL_q rfl rfl (Zw (E := encGExpr) l.drew A82 rfl rfl rfl ax ?_)
   intro bg aF
   obtain ⟨be, rfl, aI⟩ := encGExpr_val.1 aF
   refine ⟨rfl, ?_⟩
   obtain ⟨bp, aG, c⟩ := Zg c
   refine DL_e rfl rfl (Tc rfl rfl rfl (Zi rfl (Zi rfl args_nil)) (ih aG l.drew aH aI).r ?_)
   rintro _ bl ⟨av, ao, ak, rfl⟩
   refine ⟨ag_nil, ?_⟩
   refine DL_q rfl rfl (Exec.not rfl rfl ⟨rfl, ?_⟩)
   refine DL_done (Zb (Ze ?_))
   rcases ite_some c with ⟨y, c⟩ | ⟨y, c⟩
   ·refine W_cond_t rfl y (Zc (Zd (Za rfl rfl (Zo (v := Value.bool (false)) rfl rfl (Zb (Ze (W_ret (ib_ret (at_ret (at_ret (ib_ret (at_ret (at_ret ?_)))))))))))))
    have aQ := Zu c
    subst af
    have a7 := a8 _ (am (by intro _ h; cases h))
    have aR := Zu a7
    subst r
    refine ⟨_, ret1 rfl, ?_⟩
    exact ⟨av, (Zt (Zt p t) ao), ((ak).drop).drop, rfl⟩
   refine W_cond_f rfl y ?_
   replace y := Zk y
   refine W_skip (ib_normal (Ze (Zd (Za rfl rfl (Zm (v := Vi (m)) rfl z (Za rfl rfl (Exec.add rfl rfl rfl (Za rfl rfl (Zo (v := Vi (IntKind.i64.wrap (m + 1))) rfl rfl (Zb (Ze ?_)))))))))))
   have aS := Zu c
   subst af
   refine ⟨_, rfl, ?_⟩; exact ⟨av, (Zt t ao), ((ak).f1).f1, ac, ag, rfl⟩
  refine W_cond_f rfl x ?_
  replace x := Zk x
  refine W_exit (at_exit (at_exit (ib_here (Ze ?_))))
  have aT := Zu c
  subst af
  refine ⟨_, .inr (am (by intro _ h; cases h)), ?_⟩; exact ⟨aJ, t, ((l).f1).f1, ac, ag, z⟩
 rintro aX bm ⟨an, al, a1⟩
 have hm := al.elim (a6 _) (a5 _)
 clear al
 obtain ⟨aK, a9, a4, ba, bb, bc⟩ := a1
 refine (Ze (Zc (Zd (Za rfl rfl (Zo (v := Value.bool (true)) rfl rfl (Zb (Ze (W_ret ?_))))))))
 have aU := Zu hm
 subst r
 refine ⟨_, ret1 rfl, ?_⟩
 exact ⟨aK, (Zt p a9), ((a4).drop).drop, rfl⟩
theorem ref18_sameExpr_sim {fu : Nat} : ∀ {w0 w : World} {s : PHeap} {H : List Res} {a : GExpr} {b : GExpr} {d : Value} {f : Value} {r : Bool} (hm : ref18_sameExpr_p fu a b = some r) (hS : St w0 s (H) w) (h : SliceRep encGExpr s d a.Kids) (i : SliceRep encGExpr s f b.Kids), Calls Try.prog 86 #[Value.agg #[Value.string (a.Op), Vi (a.N), d], Value.agg #[Value.string (b.Op), Vi (b.N), f]] w fun e w' => ∃ v, e = .returned v ∧ ((fun (g : Bool) => ∃ (c : PHeap) , PHeap.le s c ∧ St w0 c (H) w' ∧ v = Value.bool (g)) r) := by
 induction fu with
 | zero => intros; rename_i hm _ _ _; rw [ref18_sameExpr_p] at hm; cases hm
 | succ fu ih => exact ref18_sameExpr_step ih
theorem ref18_sameTest_sim {w0 w : World} {s : PHeap} {H : List Res} {fu : Nat} {a : GTest} {b : GTest} {l : Value} {m : Value} {n : Value} {o : Value} {r : Bool} (hm : ref18_sameTest_p fu a b = some r) (hS : St w0 s (H) w) (t : SliceRep encGExpr s l a.A.Kids) (u : SliceRep encGExpr s m a.B.Kids) (x : SliceRep encGExpr s n b.A.Kids) (y : SliceRep encGExpr s o b.B.Kids) :
  Calls Try.prog 85 #[Value.agg #[Value.string (a.Op), Value.string (a.A.Op), Vi (a.A.N), l, Value.string (a.B.Op), Vi (a.B.N), m], Value.agg #[Value.string (b.Op), Value.string (b.A.Op), Vi (b.A.N), n, Value.string (b.B.Op), Vi (b.B.N), o]] w fun e w' => ∃ v, e = .returned v ∧ ((fun (al : Bool) => ∃ (p : PHeap) , PHeap.le s p ∧ St w0 p (H) w' ∧ v = Value.bool (al)) r) := by
 unfold ref18_sameTest_p at hm
 refine calls_of_W Try.func85 rfl rfl (Zc (Zd (Za rfl rfl (Exec.box (cs := [Value.string (a.Op), Value.string (a.A.Op), Vi (a.A.N), l, Value.string (a.B.Op), Vi (a.B.N), m]) hS rfl rfl rfl ?_))))
 intro am av aa
 refine Za rfl rfl (Exec.box (cs := [Value.string (b.Op), Value.string (b.A.Op), Vi (b.A.N), n, Value.string (b.B.Op), Vi (b.B.N), o]) aa rfl rfl rfl ?_)
 intro an aw h
 refine Za rfl rfl (Zo (v := Value.bool (false)) rfl rfl (Zb (Ze (Zc ?_))))
 obtain ⟨i, c, hm⟩ := Zg hm
 refine W_mid (M := fun f' w' => (fun (i : Bool) => ∃ (q : PHeap) , PHeap.le s q ∧ St w0 q (H) w' ∧ f' 4 = Value.bool (i)) i) ?_ ?_
 ·refine Zd (Za rfl rfl (Zp F129_0 rfl rfl rfl (Za rfl rfl (Zn ((h).f1) A9 rfl rfl rfl (Za rfl rfl (Zp F129_0 rfl rfl rfl (Za rfl rfl (Zn (h) A9 rfl rfl rfl (Za rfl rfl (Exec.str_eql rfl rfl rfl (Za rfl rfl (Zm (v := Value.bool (decide (a.Op = b.Op))) rfl rfl ?_))))))))))))
  rcases ite_some c with ⟨d, c⟩ | ⟨d, c⟩
  ·refine WL_run rfl (Zf rfl (Zx d)) rfl (Zp F129_1 rfl rfl rfl (WL_run rfl (Zf rfl (Zx d)) rfl (Exec.load_box_agg (ds := [Value.string (a.A.Op), Vi (a.A.N), l]) ((h).f1) A82 rfl rfl rfl (WL_run rfl (Zf rfl (Zx d)) rfl (Zp F129_1 rfl rfl rfl (WL_run rfl (Zf rfl (Zx d)) rfl (Exec.load_box_agg (ds := [Value.string (b.A.Op), Vi (b.A.N), n]) (h) A82 rfl rfl rfl ?_)))))))
   obtain ⟨a0, ag, c⟩ := Zg c
   refine WL_run rfl (Zf rfl (Zx d)) rfl (Tc rfl rfl rfl (Zi rfl (Zi rfl args_nil)) (ref18_sameExpr_sim ag h t x).r ?_)
   rintro _ ax ⟨ai, k, j, rfl⟩
   refine WL_passes 2 (by rw [d]; rfl) ?_
   rcases ite_some c with ⟨g, c⟩ | ⟨g, c⟩
   ·refine WL_run rfl (Zf rfl (Zx g)) rfl (Zp F129_2 rfl rfl rfl (WL_run rfl (Zf rfl (Zx g)) rfl (Exec.load_box_agg (ds := [Value.string (a.B.Op), Vi (a.B.N), m]) ((j).f1) A82 rfl rfl rfl (WL_run rfl (Zf rfl (Zx g)) rfl (Zp F129_2 rfl rfl rfl (WL_run rfl (Zf rfl (Zx g)) rfl (Exec.load_box_agg (ds := [Value.string (b.B.Op), Vi (b.B.N), o]) (j) A82 rfl rfl rfl ?_)))))))
    obtain ⟨a1, ah, c⟩ := Zg c
    refine WL_run rfl (Zf rfl (Zx g)) rfl (Tc rfl rfl rfl (Zi rfl (Zi rfl args_nil)) (ref18_sameExpr_sim ah j (u.mono k) (y.mono k)).r ?_)
    rintro _ ay ⟨aj, ad, ab, rfl⟩
    refine WL_passes 2 (by rw [g]; rfl) ?_
    refine Zb (Ze ?_)
    have ao := Zu c
    subst i
    exact ⟨aj, (Zt k ad), ((ab).drop).drop, rfl⟩
   replace g := Zk g
   refine WL_passes 7 (by rw [g]; rfl) ?_
   refine Zb (Ze ?_)
   have ap := Zu c
   subst i
   exact ⟨ai, k, ((j).drop).drop, rfl⟩
  replace d := Zk d
  refine WL_passes 14 (by rw [d]; rfl) ?_
  refine Zb (Ze ?_)
  have aq := Zu c
  subst i
  exact ⟨s, (Zv _), ((h).drop).drop, rfl⟩
 intro au az z
 obtain ⟨ak, ae, ac, af⟩ := z
 refine (Ze (W_ret ?_))
 have ar := Zu hm
 subst r
 refine ⟨_, ret1 rfl, ?_⟩
 exact ⟨ak, ae, ac, af⟩
theorem ref18_SameCond_sim {w0 w : World} {s : PHeap} {H : List Res} {fu : Nat} {aa : Cond} {ab : Cond} {o : Value} {p : Value} {t : Value} {u : Value} {x : Value} {y : Value} {r : Bool} (hm : ref18_SameCond_p fu aa ab = some r) (hS : St w0 s (H) w) (a6 : SliceRep (encInt .i64) s o aa.Pos) (a7 : SliceRep (encInt .i64) s p aa.Neg) (al : SliceRep encGTest s t aa.Tests) (a8 : SliceRep (encInt .i64) s u ab.Pos) (a9 : SliceRep (encInt .i64) s x ab.Neg) (ap : SliceRep encGTest s y ab.Tests) :
  Calls Try.prog 49 #[Value.agg #[o, p, t], Value.agg #[u, x, y]] w fun e w' => ∃ v, e = .returned v ∧ ((fun (be : Bool) => ∃ (a0 : PHeap) , PHeap.le s a0 ∧ St w0 a0 (H) w' ∧ v = Value.bool (be)) r) := by
 unfold ref18_SameCond_p at hm
 refine calls_of_W Try.func49 rfl rfl (Zc (Zd (Za rfl rfl (Exec.box (cs := [o, p, t]) hS rfl rfl rfl ?_))))
 intro k b8 aG
 refine Za rfl rfl (Exec.box (cs := [u, x, y]) aG rfl rfl rfl ?_)
 intro l b9 an
 refine Za rfl rfl (Zo (v := Value.bool (false)) rfl rfl (Zb (Ze (Zc (Zc ?_)))))
 obtain ⟨z, b, hm⟩ := Zg hm
 refine W_mid (M := fun f' w' => (fun (z : Bool) => ∃ (a1 : PHeap) , PHeap.le s a1 ∧ St w0 a1 (Res.box k 47 [o, p, t] :: Res.box l 47 [u, x, y] :: H) w' ∧ f' 2 = Value.pointer (some ⟨k, 0, none⟩) ∧ f' 3 = Value.pointer (some ⟨l, 0, none⟩) ∧ f' 28 = Value.bool (z)) z) ?_ ?_
 ·refine Zd (Za rfl rfl (Zp F47_0 rfl rfl rfl (Za rfl rfl (Zn ((an).f1) A24 rfl rfl rfl (Za rfl rfl (Zp F47_0 rfl rfl rfl (Za rfl rfl (Zn (an) A24 rfl rfl rfl ?_))))))))
  obtain ⟨bf, aQ, b⟩ := Zg b
  refine Za rfl rfl (Tc rfl rfl rfl (Zi rfl (Zi rfl args_nil)) (ref18_ints_sim aQ an a6 a8).r ?_)
  rintro _ bA ⟨bb, j, ag, rfl⟩
  refine Za rfl rfl (Exec.not rfl rfl (Za rfl rfl (Zm (v := Value.bool (!bf)) rfl rfl ?_)))
  rcases ite_some b with ⟨d, b⟩ | ⟨d, b⟩
  ·refine WL_passes 16 (by rw [d]; rfl) ?_
   refine Zb (Ze ?_)
   have bi := Zu b
   subst z
   exact ⟨bb, j, (ag).f1, rfl, rfl, rfl⟩
  replace d := Zk d
  refine WL_run rfl (Zf rfl (Zx d)) rfl (Zp F47_1 rfl rfl rfl (WL_run rfl (Zf rfl (Zx d)) rfl (Zn ((ag).f1) A24 rfl rfl rfl (WL_run rfl (Zf rfl (Zx d)) rfl (Zp F47_1 rfl rfl rfl (WL_run rfl (Zf rfl (Zx d)) rfl (Zn (ag) A24 rfl rfl rfl ?_)))))))
  obtain ⟨bI, aR, b⟩ := Zg b
  refine WL_run rfl (Zf rfl (Zx d)) rfl (Tc rfl rfl rfl (Zi rfl (Zi rfl args_nil)) (ref18_ints_sim aR ag (a7.mono j) (a9.mono j)).r ?_)
  rintro _ bB ⟨a2, ai, ah, rfl⟩
  refine WL_run rfl (Zf rfl (Zx d)) rfl (Exec.not rfl rfl ?_)
  refine WL_passes 2 (by rw [d]; rfl) ?_
  rcases ite_some b with ⟨c, b⟩ | ⟨c, b⟩
  ·refine WL_passes 8 (by rw [c]; rfl) ?_
   refine Zb (Ze ?_)
   have bj := Zu b
   subst z
   exact ⟨a2, (Zt j ai), (ah).f1, rfl, rfl, rfl⟩
  replace c := Zk c
  refine WL_run rfl (Zf rfl (Zx c)) rfl (Zp F47_2 rfl rfl rfl (WL_run rfl (Zf rfl (Zx c)) rfl (Zn ((ah).f1) A45 rfl rfl rfl (WL_run rfl (Zf rfl (Zx c)) rfl (Zr S45 rfl rfl (al.mono (Zt j ai)) (WL_run rfl (Zf rfl (Zx c)) rfl (Zp F47_2 rfl rfl rfl (WL_run rfl (Zf rfl (Zx c)) rfl (Zn (ah) A45 rfl rfl rfl (WL_run rfl (Zf rfl (Zx c)) rfl (Zr S45 rfl rfl (ap.mono (Zt j ai)) (WL_run rfl (Zf rfl (Zx c)) rfl (Exec.neq rfl rfl rfl (Za rfl rfl (Exec.pick_f (v := Value.bool (!decide ((aa.Tests.length : Int) = (ab.Tests.length : Int)))) rfl (Zx c) rfl (Zb (Ze ?_)))))))))))))))))
  have bk := Zu b
  subst z
  exact ⟨a2, (Zt j ai), (ah).f1, rfl, rfl, rfl⟩
 intro bt bC aE
 obtain ⟨ak, m, ar, aO, aP, az⟩ := aE
 refine (Ze ?_)
 rcases ite_some hm with ⟨ac, hm⟩ | ⟨ac, hm⟩
 ·refine W_cond_t az ac (Zc (Zd (Za rfl rfl (Zo (v := Value.bool (false)) rfl rfl (Zb (Ze (W_ret (at_ret ?_))))))))
  have bl := Zu hm
  subst r
  refine ⟨_, ret1 rfl, ?_⟩
  exact ⟨ak, m, ((ar).drop).drop, rfl⟩
 refine W_cond_f az ac ?_
 replace ac := Zk ac
 refine W_skip (Ze (Zc (Zc (Zd (Za rfl rfl (Zo (v := Vi (0)) rfl rfl (Zb (Ze ?_))))))))
 obtain ⟨aq, aC, aM, aK, aJ⟩ := ctl_some hm
 refine W_mid (M := fun f' w' => ∃ s', (aq = .next s' ∨ aq = .brk s') ∧ (fun (ax : Int) => ∃ (a3 : PHeap) , PHeap.le ak a3 ∧ St w0 a3 (Res.box k 47 [o, p, t] :: Res.box l 47 [u, x, y] :: H) w' ∧ f' 2 = Value.pointer (some ⟨k, 0, none⟩) ∧ f' 3 = Value.pointer (some ⟨l, 0, none⟩) ∧ f' 5 = Vi (ax)) s') ?_ ?_
 ·refine W_block (W_while (fun s' f' w' => (fun (i : Int) => ∃ (a4 : PHeap) , PHeap.le ak a4 ∧ St w0 a4 (Res.box k 47 [o, p, t] :: Res.box l 47 [u, x, y] :: H) w' ∧ f' 2 = Value.pointer (some ⟨k, 0, none⟩) ∧ f' 3 = Value.pointer (some ⟨l, 0, none⟩) ∧ f' 5 = Vi (i)) s') aC ?_ ?_)
  ·have aH := (ar).f1
   exact ⟨ak, (Zv _), (aH).f1, aO, aP, rfl⟩
  intro i am bu bD aD a aw
  obtain ⟨bc, n, g, aj, ao, af⟩ := aD
  refine Zc (Zc (Zd (Za rfl rfl (Zm (v := Vi (i)) rfl af (Za rfl rfl (Zp F47_2 rfl aj rfl (Za rfl rfl (Zn (g) A45 rfl rfl rfl (Za rfl rfl (Zr S45 rfl rfl (al.mono (Zt m n)) (Za rfl rfl (Zq rfl rfl rfl (Zb (Ze ?_))))))))))))))
  rcases ite_some a with ⟨ad, a⟩ | ⟨ad, a⟩
  ·refine W_cond_t rfl ad (W_skip (Ze (Zc (W_block (Zc (W_dl (n0 := 12) (qs 0 10 (.e 10 [] (.q 11 .done))) hmix (by kernel_rfl) (by kernel_rfl) (DL_q rfl rfl (Zp F47_2 rfl aj rfl ⟨rfl, ?_⟩))))))))
   refine DL_q rfl rfl (Zn (g.drew) A45 rfl rfl rfl ⟨rfl, ?_⟩)
   refine DL_q rfl rfl (Zm (v := Vi (i)) rfl af ⟨rfl, ?_⟩)
   obtain ⟨bG, aS, a⟩ := Zg a
   refine DL_q rfl rfl (Exec.index_repE S45 rfl rfl rfl (al.mono (Zt m n)) aS ?_)
   intro bg bw aA bm
   refine ⟨rfl, ?_⟩
   refine DL_q rfl rfl (Zw (E := encGTest) g.drew A129 rfl rfl rfl aA ?_)
   intro b6 aT
   obtain ⟨b2, b3, rfl, aX, aY⟩ := encGTest_val.1 aT
   refine ⟨rfl, ?_⟩
   refine DL_q rfl rfl (Zp F47_2 rfl ao rfl ⟨rfl, ?_⟩)
   refine DL_q rfl rfl (Zn ((g.drew).f1) A45 rfl rfl rfl ⟨rfl, ?_⟩)
   refine DL_q rfl rfl (Zm (v := Vi (i)) rfl af ⟨rfl, ?_⟩)
   obtain ⟨bH, aU, a⟩ := Zg a
   refine DL_q rfl rfl (Exec.index_repE S45 rfl rfl rfl (ap.mono (Zt m n)) aU ?_)
   intro bh bx aB bn
   refine ⟨rfl, ?_⟩
   refine DL_q rfl rfl (Zw (E := encGTest) g.drew A129 rfl rfl rfl aB ?_)
   intro b7 aV
   obtain ⟨b4, b5, rfl, aZ, ba⟩ := encGTest_val.1 aV
   refine ⟨rfl, ?_⟩
   obtain ⟨bJ, aW, a⟩ := Zg a
   refine DL_e rfl rfl (Tc rfl rfl rfl (Zi rfl (Zi rfl args_nil)) (ref18_sameTest_sim aW g.drew aX aY aZ ba).r ?_)
   rintro _ bE ⟨a5, ay, au, rfl⟩
   refine ⟨ag_nil, ?_⟩
   refine DL_q rfl rfl (Exec.not rfl rfl ⟨rfl, ?_⟩)
   refine DL_done (Zb (Ze ?_))
   rcases ite_some a with ⟨ae, a⟩ | ⟨ae, a⟩
   ·refine W_cond_t rfl ae (Zc (Zd (Za rfl rfl (Zo (v := Value.bool (false)) rfl rfl (Zb (Ze (W_ret (ib_ret (at_ret (at_ret (ib_ret (at_ret (at_ret ?_)))))))))))))
    have bo := Zu a
    subst am
    have aL := aM _ (aw (by intro _ h; cases h))
    have bp := Zu aL
    subst r
    refine ⟨_, ret1 rfl, ?_⟩
    exact ⟨a5, (Zt (Zt m n) ay), ((au).drop).drop, rfl⟩
   refine W_cond_f rfl ae ?_
   replace ae := Zk ae
   refine W_skip (ib_normal (Ze (Zd (Za rfl rfl (Zm (v := Vi (i)) rfl af (Za rfl rfl (Exec.add rfl rfl rfl (Za rfl rfl (Zo (v := Vi (IntKind.i64.wrap (i + 1))) rfl rfl (Zb (Ze ?_)))))))))))
   have bq := Zu a
   subst am
   refine ⟨_, rfl, ?_⟩; exact ⟨a5, (Zt n ay), ((au).f1).f1, aj, ao, rfl⟩
  refine W_cond_f rfl ad ?_
  replace ad := Zk ad
  refine W_exit (at_exit (at_exit (ib_here (Ze ?_))))
  have br := Zu a
  subst am
  refine ⟨_, .inr (aw (by intro _ h; cases h)), ?_⟩; exact ⟨bc, n, ((g).f1).f1, aj, ao, af⟩
 rintro bv bF ⟨ax, av, aF⟩
 have hm := av.elim (aK _) (aJ _)
 clear av
 obtain ⟨bd, aN, aI, bz, b0, b1⟩ := aF
 refine (Ze (Zc (Zd (Za rfl rfl (Zo (v := Value.bool (true)) rfl rfl (Zb (Ze (W_ret ?_))))))))
 have bs := Zu hm
 subst r
 refine ⟨_, ret1 rfl, ?_⟩
 exact ⟨bd, (Zt m aN), ((aI).drop).drop, rfl⟩
end Go.Pw
