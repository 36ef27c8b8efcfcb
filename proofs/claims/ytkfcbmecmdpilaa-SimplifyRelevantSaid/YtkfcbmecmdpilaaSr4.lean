/-
  The walks (printed by my generator).
-/
import Derived.Test.YtkfcbmecmdpilaaL29
import Derived.Test.YtkfcbmecmdpilaaL27
import Derived.Test.YtkfcbmecmdpilaaSr3
set_option maxRecDepth 100000
set_option maxHeartbeats 4000000
set_option linter.unusedVariables false
namespace Go.Pw
open Go.Proofs
theorem ref19_Relevant_sim {w0 w : World} {s : PHeap} {H : List Res} {fu : Nat} {ac : Ground} {o : Value} {p : Value} {t : Value} {u : Value} {x : Value} {r : ref19_Marks} (hm : ref19_Relevant_p fu ac = some r) (hS : St w0 s (H) w) (aj : SliceRep encAtom s o ac.Atoms) (ak : SliceRep encGFluent s p ac.Fluents) (dH : SliceRep (encInt .i64) s t ac.Init) (aZ : SliceRep encCond s u ac.Goal) (aM : SliceRep encGOp s x ac.Ops) :
  Calls Try.prog 23 #[Value.agg #[o, p, t, u, x]] w fun e w' => ∃ v, e = .returned v ∧ ((fun (bR : ref19_Marks) => ∃ (aJ : PHeap) (bP : Value) (bQ : Value), PHeap.le s aJ ∧ St w0 aJ (H) w' ∧ v = Value.agg #[bP, bQ] ∧ SliceRep encBool aJ bP bR.Atoms ∧ SliceRep encBool aJ bQ bR.Fluents) r) := by
 unfold ref19_Relevant_p at hm
 refine calls_of_W Try.func23 rfl rfl (Zc (Zd (Za rfl rfl (Exec.box (cs := [o, p, t, u, x]) hS rfl rfl rfl ?_))))
 intro g eE ck
 refine Za rfl rfl (Exec.alloc (cs := [Value.slice none 0 0, Value.slice none 0 0]) ck Z64 rfl rfl ?_)
 intro i eF al
 refine Zb (Ze (Zc ?_))
 obtain ⟨cD, a3, hm⟩ := Zg hm
 obtain ⟨cE, a4, hm⟩ := Zg hm
 refine W_mid (M := fun f' w' => ∃ (bG : PHeap) (d : Nat) (a : Value) (b : Value), PHeap.le s bG ∧ St w0 bG (Res.box g 28 [o, p, t, u, x] :: Res.box i 64 [Value.slice none 0 0, Value.slice none 0 0] :: Res.box d 64 [a, b] :: Res.arr encBool 4 a cD :: Res.arr encBool 4 b cE :: H) w' ∧ f' 1 = Value.pointer (some ⟨g, 0, none⟩) ∧ f' 2 = Value.pointer (some ⟨i, 0, none⟩) ∧ f' 3 = Value.pointer (some ⟨d, 0, none⟩)) ?_ ?_
 ·refine W_dl (n0 := 10) (qs 0 3 (qs 4 3 (.alt (.e 3 [4, 5, 6] (.alt (.e 7 [] (.q 8 (.e 9 [8] .done))) (.e 9 [4, 5, 6] (.e 7 [] (.q 8 .done))))) (.alt (.e 7 [0, 1, 2] (.alt (.e 3 [] (.q 8 (.e 9 [8] .done))) (.e 9 [0, 1, 2] (.e 3 [] (.q 8 .done))))) (.e 9 [0, 1, 2, 4, 5, 6] (.alt (.e 3 [4, 5, 6] (.e 7 [] (.q 8 .done))) (.e 7 [0, 1, 2] (.e 3 [] (.q 8 .done))))))))) hmix (by kernel_rfl) (by kernel_rfl) (DL_q rfl rfl (Zp F28_0 rfl rfl rfl ⟨rfl, ?_⟩))
  refine DL_q rfl rfl (Zn ((al.drew).f1) A22 rfl rfl rfl ⟨rfl, ?_⟩)
  refine DL_q rfl rfl (Zr S22 rfl rfl aj ⟨rfl, ?_⟩)
  refine DL_q rfl rfl (Zp F28_1 rfl rfl rfl ⟨rfl, ?_⟩)
  refine DL_q rfl rfl (Zn ((al.drew).f1) A23 rfl rfl rfl ⟨rfl, ?_⟩)
  refine DL_q rfl rfl (Zr S23 rfl rfl ak ⟨rfl, ?_⟩)
  refine DL_alt ?_ ?_
  ·refine DL_e rfl rfl (Exec.make (E := encBool) al.drew S60 Z4 rfl rfl rfl rfl a3 ?_)
   intro m eG aN
   refine ⟨(ag_cons (ag_r rfl rfl (Zp F28_1 rfl rfl rfl ⟨rfl, rfl⟩)) (ag_cons (ag_r rfl rfl (Zn ((aN).f2) A23 rfl rfl rfl ⟨rfl, rfl⟩)) (ag_cons (ag_r rfl rfl (Zr S23 rfl rfl ak ⟨rfl, rfl⟩)) ag_nil))), ?_⟩
   refine DL_alt ?_ ?_
   ·refine DL_e rfl rfl (Exec.make (E := encBool) aN S60 Z4 rfl rfl rfl rfl a4 ?_)
    intro aa eH aO
    refine ⟨ag_nil, ?_⟩
    refine DL_q rfl rfl (Exec.build rfl (parts_cons (c := [m]) (cells_of rfl (cells_one ((aO).f1).arr_one)) (parts_cons (c := [aa]) (cells_of rfl (cells_one (aO).arr_one)) parts_nil)) (v := Value.agg #[m, aa]) (fun _ => by kernel_rfl) ⟨rfl, ?_⟩)
    refine DL_e rfl rfl (Exec.alloc (cs := [Value.slice none 0 0, Value.slice none 0 0]) aO Z64 rfl rfl ?_)
    intro bV eI am
    refine ⟨(ag_cons (ag_r rfl rfl (Exec.build rfl (parts_cons (c := [m]) (cells_of rfl (cells_one ((am).f2).arr_one)) (parts_cons (c := [aa]) (cells_of rfl (cells_one ((am).f1).arr_one)) parts_nil)) (v := Value.agg #[m, aa]) (fun _ => by kernel_rfl) ⟨rfl, rfl⟩)) ag_nil), ?_⟩
    refine DL_done (Za rfl rfl (Exec.store_box (ds := [m, aa]) (es := [m, aa]) am A64 rfl rfl rfl rfl (Zj ((am).f2).arr_one (Zj ((am).f1).arr_one one_nil)) (Nat.le_of_ble_eq_true rfl) rfl ?_))
    intro eJ cl
    refine Zb (Ze ?_)
    exact ⟨s, bV, m, aa, (Zv _), (((((cl).f1).f2).f2).f3).f4, rfl, rfl, rfl⟩
   refine DL_e rfl rfl (Exec.alloc (cs := [Value.slice none 0 0, Value.slice none 0 0]) aN Z64 rfl rfl ?_)
   intro bW eK bh
   refine ⟨(ag_cons (ag_r rfl rfl (Zp F28_1 rfl rfl rfl ⟨rfl, rfl⟩)) (ag_cons (ag_r rfl rfl (Zn ((bh).f3) A23 rfl rfl rfl ⟨rfl, rfl⟩)) (ag_cons (ag_r rfl rfl (Zr S23 rfl rfl ak ⟨rfl, rfl⟩)) ag_nil))), ?_⟩
   refine DL_e rfl rfl (Exec.make (E := encBool) bh S60 Z4 rfl rfl rfl rfl a4 ?_)
   intro a5 eL an
   refine ⟨ag_nil, ?_⟩
   refine DL_q rfl rfl (Exec.build rfl (parts_cons (c := [m]) (cells_of rfl (cells_one ((an).f2).arr_one)) (parts_cons (c := [a5]) (cells_of rfl (cells_one (an).arr_one)) parts_nil)) (v := Value.agg #[m, a5]) (fun _ => by kernel_rfl) ⟨rfl, ?_⟩)
   refine DL_done (Za rfl rfl (Exec.store_box (ds := [m, a5]) (es := [m, a5]) (an).f1 A64 rfl rfl rfl rfl (Zj (((an).f1).f2).arr_one (Zj (((an).f1).f1).arr_one one_nil)) (Nat.le_of_ble_eq_true rfl) rfl ?_))
   intro eM cm
   refine Zb (Ze ?_)
   exact ⟨s, bW, m, a5, (Zv _), (((((cm).f1).f2).f2).f3).f4, rfl, rfl, rfl⟩
  refine DL_alt ?_ ?_
  ·refine DL_e rfl rfl (Exec.make (E := encBool) al.drew S60 Z4 rfl rfl rfl rfl a4 ?_)
   intro n eN aP
   refine ⟨(ag_cons (ag_r rfl rfl (Zp F28_0 rfl rfl rfl ⟨rfl, rfl⟩)) (ag_cons (ag_r rfl rfl (Zn ((aP).f2) A22 rfl rfl rfl ⟨rfl, rfl⟩)) (ag_cons (ag_r rfl rfl (Zr S22 rfl rfl aj ⟨rfl, rfl⟩)) ag_nil))), ?_⟩
   refine DL_alt ?_ ?_
   ·refine DL_e rfl rfl (Exec.make (E := encBool) aP S60 Z4 rfl rfl rfl rfl a3 ?_)
    intro ab eO aQ
    refine ⟨ag_nil, ?_⟩
    refine DL_q rfl rfl (Exec.build rfl (parts_cons (c := [ab]) (cells_of rfl (cells_one (aQ).arr_one)) (parts_cons (c := [n]) (cells_of rfl (cells_one ((aQ).f1).arr_one)) parts_nil)) (v := Value.agg #[ab, n]) (fun _ => by kernel_rfl) ⟨rfl, ?_⟩)
    refine DL_e rfl rfl (Exec.alloc (cs := [Value.slice none 0 0, Value.slice none 0 0]) aQ Z64 rfl rfl ?_)
    intro bX eP ao
    refine ⟨(ag_cons (ag_r rfl rfl (Exec.build rfl (parts_cons (c := [ab]) (cells_of rfl (cells_one ((ao).f1).arr_one)) (parts_cons (c := [n]) (cells_of rfl (cells_one ((ao).f2).arr_one)) parts_nil)) (v := Value.agg #[ab, n]) (fun _ => by kernel_rfl) ⟨rfl, rfl⟩)) ag_nil), ?_⟩
    refine DL_done (Za rfl rfl (Exec.store_box (ds := [ab, n]) (es := [ab, n]) ao A64 rfl rfl rfl rfl (Zj ((ao).f1).arr_one (Zj ((ao).f2).arr_one one_nil)) (Nat.le_of_ble_eq_true rfl) rfl ?_))
    intro eQ cn
    refine Zb (Ze ?_)
    exact ⟨s, bX, ab, n, (Zv _), (((((cn).f2).f2).f2).f3).f4, rfl, rfl, rfl⟩
   refine DL_e rfl rfl (Exec.alloc (cs := [Value.slice none 0 0, Value.slice none 0 0]) aP Z64 rfl rfl ?_)
   intro bY eR bi
   refine ⟨(ag_cons (ag_r rfl rfl (Zp F28_0 rfl rfl rfl ⟨rfl, rfl⟩)) (ag_cons (ag_r rfl rfl (Zn ((bi).f3) A22 rfl rfl rfl ⟨rfl, rfl⟩)) (ag_cons (ag_r rfl rfl (Zr S22 rfl rfl aj ⟨rfl, rfl⟩)) ag_nil))), ?_⟩
   refine DL_e rfl rfl (Exec.make (E := encBool) bi S60 Z4 rfl rfl rfl rfl a3 ?_)
   intro a6 eS ap
   refine ⟨ag_nil, ?_⟩
   refine DL_q rfl rfl (Exec.build rfl (parts_cons (c := [a6]) (cells_of rfl (cells_one (ap).arr_one)) (parts_cons (c := [n]) (cells_of rfl (cells_one ((ap).f2).arr_one)) parts_nil)) (v := Value.agg #[a6, n]) (fun _ => by kernel_rfl) ⟨rfl, ?_⟩)
   refine DL_done (Za rfl rfl (Exec.store_box (ds := [a6, n]) (es := [a6, n]) (ap).f1 A64 rfl rfl rfl rfl (Zj (((ap).f1).f1).arr_one (Zj (((ap).f1).f2).arr_one one_nil)) (Nat.le_of_ble_eq_true rfl) rfl ?_))
   intro eT co
   refine Zb (Ze ?_)
   exact ⟨s, bY, a6, n, (Zv _), (((((co).f2).f2).f2).f3).f4, rfl, rfl, rfl⟩
  refine DL_e rfl rfl (Exec.alloc (cs := [Value.slice none 0 0, Value.slice none 0 0]) al.drew Z64 rfl rfl ?_)
  intro ba eU aB
  refine ⟨(ag_cons (ag_r rfl rfl (Zp F28_0 rfl rfl rfl ⟨rfl, rfl⟩)) (ag_cons (ag_r rfl rfl (Zn ((aB).f2) A22 rfl rfl rfl ⟨rfl, rfl⟩)) (ag_cons (ag_r rfl rfl (Zr S22 rfl rfl aj ⟨rfl, rfl⟩)) (ag_cons (ag_r rfl rfl (Zp F28_1 rfl rfl rfl ⟨rfl, rfl⟩)) (ag_cons (ag_r rfl rfl (Zn ((aB).f2) A23 rfl rfl rfl ⟨rfl, rfl⟩)) (ag_cons (ag_r rfl rfl (Zr S23 rfl rfl ak ⟨rfl, rfl⟩)) ag_nil)))))), ?_⟩
  refine DL_alt ?_ ?_
  ·refine DL_e rfl rfl (Exec.make (E := encBool) aB S60 Z4 rfl rfl rfl rfl a3 ?_)
   intro a7 eV bj
   refine ⟨(ag_cons (ag_r rfl rfl (Zp F28_1 rfl rfl rfl ⟨rfl, rfl⟩)) (ag_cons (ag_r rfl rfl (Zn ((bj).f3) A23 rfl rfl rfl ⟨rfl, rfl⟩)) (ag_cons (ag_r rfl rfl (Zr S23 rfl rfl ak ⟨rfl, rfl⟩)) ag_nil))), ?_⟩
   refine DL_e rfl rfl (Exec.make (E := encBool) bj S60 Z4 rfl rfl rfl rfl a4 ?_)
   intro a8 eW aq
   refine ⟨ag_nil, ?_⟩
   refine DL_q rfl rfl (Exec.build rfl (parts_cons (c := [a7]) (cells_of rfl (cells_one ((aq).f1).arr_one)) (parts_cons (c := [a8]) (cells_of rfl (cells_one (aq).arr_one)) parts_nil)) (v := Value.agg #[a7, a8]) (fun _ => by kernel_rfl) ⟨rfl, ?_⟩)
   refine DL_done (Za rfl rfl (Exec.store_box (ds := [a7, a8]) (es := [a7, a8]) (aq).f2 A64 rfl rfl rfl rfl (Zj (((aq).f2).f2).arr_one (Zj (((aq).f2).f1).arr_one one_nil)) (Nat.le_of_ble_eq_true rfl) rfl ?_))
   intro eX cp
   refine Zb (Ze ?_)
   exact ⟨s, ba, a7, a8, (Zv _), (((((cp).f1).f2).f2).f3).f4, rfl, rfl, rfl⟩
  refine DL_e rfl rfl (Exec.make (E := encBool) aB S60 Z4 rfl rfl rfl rfl a4 ?_)
  intro a9 eY bk
  refine ⟨(ag_cons (ag_r rfl rfl (Zp F28_0 rfl rfl rfl ⟨rfl, rfl⟩)) (ag_cons (ag_r rfl rfl (Zn ((bk).f3) A22 rfl rfl rfl ⟨rfl, rfl⟩)) (ag_cons (ag_r rfl rfl (Zr S22 rfl rfl aj ⟨rfl, rfl⟩)) ag_nil))), ?_⟩
  refine DL_e rfl rfl (Exec.make (E := encBool) bk S60 Z4 rfl rfl rfl rfl a3 ?_)
  intro aA eZ ar
  refine ⟨ag_nil, ?_⟩
  refine DL_q rfl rfl (Exec.build rfl (parts_cons (c := [aA]) (cells_of rfl (cells_one (ar).arr_one)) (parts_cons (c := [a9]) (cells_of rfl (cells_one ((ar).f1).arr_one)) parts_nil)) (v := Value.agg #[aA, a9]) (fun _ => by kernel_rfl) ⟨rfl, ?_⟩)
  refine DL_done (Za rfl rfl (Exec.store_box (ds := [aA, a9]) (es := [aA, a9]) (ar).f2 A64 rfl rfl rfl rfl (Zj (((ar).f2).f1).arr_one (Zj (((ar).f2).f2).arr_one one_nil)) (Nat.le_of_ble_eq_true rfl) rfl ?_))
  intro fa cq
  refine Zb (Ze ?_)
  exact ⟨s, ba, aA, a9, (Zv _), (((((cq).f2).f2).f2).f3).f4, rfl, rfl, rfl⟩
 intro dX fb cf
 obtain ⟨aW, d, a, b, ag, cr, cL, cM, cN⟩ := cf
 refine (Ze (Zc (Zc (Zd (Za rfl rfl (Zo (v := Vi (0)) rfl rfl (Zb (Ze ?_))))))))
 obtain ⟨bb, bZ, ef, c7, c4⟩ := ctl_some hm
 refine W_mid (M := fun f' w' => ∃ s', (bb = .next s' ∨ bb = .brk s') ∧ (un3 fun (bq : Int) (bs : (List Bool)) (bt : (List Bool)) => ∃ (bH : PHeap) , PHeap.le aW bH ∧ St w0 bH (Res.box g 28 [o, p, t, u, x] :: Res.box i 64 [Value.slice none 0 0, Value.slice none 0 0] :: Res.box d 64 [a, b] :: Res.arr encBool 4 a bs :: Res.arr encBool 4 b bt :: H) w' ∧ f' 1 = Value.pointer (some ⟨g, 0, none⟩) ∧ f' 2 = Value.pointer (some ⟨i, 0, none⟩) ∧ f' 3 = Value.pointer (some ⟨d, 0, none⟩) ∧ f' 4 = Vi (bq)) s') ?_ ?_
 ·refine W_block (W_while (fun s' f' w' => (un3 fun (af : Int) (bu : (List Bool)) (bv : (List Bool)) => ∃ (bI : PHeap) , PHeap.le aW bI ∧ St w0 bI (Res.box g 28 [o, p, t, u, x] :: Res.box i 64 [Value.slice none 0 0, Value.slice none 0 0] :: Res.box d 64 [a, b] :: Res.arr encBool 4 a bu :: Res.arr encBool 4 b bv :: H) w' ∧ f' 1 = Value.pointer (some ⟨g, 0, none⟩) ∧ f' 2 = Value.pointer (some ⟨i, 0, none⟩) ∧ f' 3 = Value.pointer (some ⟨d, 0, none⟩) ∧ f' 4 = Vi (af)) s') bZ ?_ ?_)
  ·have ct := (cr).f4
   exact ⟨aW, (Zv _), ((((ct).f4).f4).f4).f4, cL, cM, cN, rfl⟩
  intro d9 bc dY fc cc l cA
  obtain ⟨af, bu, bv⟩ := d9
  replace l := un3_eq l
  obtain ⟨d1, aD, ad, aG, bA, aT, aH⟩ := cc
  refine Zc (Zc (Zd (Za rfl rfl (Zm (v := Vi (af)) rfl aH (Za rfl rfl (Zp F28_3 rfl aG rfl (Za rfl rfl (Zn (ad) A25 rfl rfl rfl (Za rfl rfl (Zr S25 rfl rfl (aZ.mono (Zt ag aD)) (Za rfl rfl (Zq rfl rfl rfl (Zb (Ze ?_))))))))))))))
  rcases ite_some l with ⟨av, l⟩ | ⟨av, l⟩
  ·refine W_cond_t rfl av (W_skip (Ze (Zc (W_block (W_dl (n0 := 7) (qs 0 6 (.e 6 [] .done)) hmix (by kernel_rfl) (by kernel_rfl) (DL_q rfl rfl (Exec.load_box_agg (ds := [a, b]) ((ad.drew).f2) A64 rfl aT rfl ⟨rfl, ?_⟩)))))))
   refine DL_q rfl rfl (Zp F28_3 rfl aG rfl ⟨rfl, ?_⟩)
   refine DL_q rfl rfl (Zn (ad.drew) A25 rfl rfl rfl ⟨rfl, ?_⟩)
   refine DL_q rfl rfl (Zm (v := Vi (af)) rfl aH ⟨rfl, ?_⟩)
   obtain ⟨fp, db, l⟩ := Zg l
   refine DL_q rfl rfl (Exec.index_repE S25 rfl rfl rfl (aZ.mono (Zt ag aD)) db ?_)
   intro dI em bS dL
   refine ⟨rfl, ?_⟩
   refine DL_q rfl rfl (Zw (E := encCond) ad.drew A47 rfl rfl rfl bS ?_)
   intro eB dc
   obtain ⟨ey, ez, e0, rfl, dk, dl, dm⟩ := encCond_val.1 dc
   refine ⟨rfl, ?_⟩
   obtain ⟨dA, dd, l⟩ := Zg l
   obtain ⟨ei, ej⟩ := dA
   replace l := un2_eq l
   refine DL_e rfl rfl (Tc rfl rfl rfl (Zi rfl (Zi rfl args_nil)) (ref19_Marks_cond_o_sim dd ((ad.drew).f4).f4 dk dl dm).r ?_)
   rintro _ fd ⟨d2, cF, cu, rfl⟩
   refine ⟨ag_nil, ?_⟩
   refine DL_done (Zb (ib_normal (Ze (Zd (Za rfl rfl (Zm (v := Vi (af)) rfl aH (Za rfl rfl (Exec.add rfl rfl rfl (Za rfl rfl (Zo (v := Vi (IntKind.i64.wrap (af + 1))) rfl rfl (Zb (Ze ?_))))))))))))
   have dM := Zu l
   subst bc
   refine ⟨_, rfl, ?_⟩; exact ⟨d2, (Zt aD cF), (((((cu).f1).f1).f4).f4).f4, aG, bA, aT, rfl⟩
  refine W_cond_f rfl av ?_
  replace av := Zk av
  refine W_exit (at_exit (at_exit (ib_here (Ze ?_))))
  have dN := Zu l
  subst bc
  refine ⟨_, .inr (cA (by intro _ h; cases h)), ?_⟩; exact ⟨d1, aD, (((((ad).f4).f4).f4).f4).f4, aG, bA, aT, aH⟩
 rintro dZ fe ⟨dB, bn, cg⟩
 have hm := bn.elim (c7 _) (c4 _)
 clear bn
 obtain ⟨bq, bs, bt⟩ := dB
 replace hm := un3_eq hm
 obtain ⟨aX, aE, cv, cO, cP, cQ, ep⟩ := cg
 refine (Ze (Zc (Zc (Zd (Za rfl rfl (Zo (v := Vi ((-1))) rfl rfl (Zb (Ze ?_))))))))
 obtain ⟨bd, ca, eg, c8, c5⟩ := ctl_some hm
 refine W_mid (M := fun f' w' => ∃ s', (bd = .next s' ∨ bd = .brk s') ∧ (un3 fun (b9 : Int) (bw : (List Bool)) (bx : (List Bool)) => ∃ (bJ : PHeap) , PHeap.le aX bJ ∧ St w0 bJ (Res.box g 28 [o, p, t, u, x] :: Res.box i 64 [Value.slice none 0 0, Value.slice none 0 0] :: Res.box d 64 [a, b] :: Res.arr encBool 4 a bw :: Res.arr encBool 4 b bx :: H) w' ∧ f' 1 = Value.pointer (some ⟨g, 0, none⟩) ∧ f' 2 = Value.pointer (some ⟨i, 0, none⟩) ∧ f' 3 = Value.pointer (some ⟨d, 0, none⟩) ∧ f' 5 = Vi (b9)) s') ?_ ?_
 ·refine W_block (W_while (fun s' f' w' => (un3 fun (aS : Int) (bz : (List Bool)) (b0 : (List Bool)) => ∃ (bK : PHeap) , PHeap.le aX bK ∧ St w0 bK (Res.box g 28 [o, p, t, u, x] :: Res.box i 64 [Value.slice none 0 0, Value.slice none 0 0] :: Res.box d 64 [a, b] :: Res.arr encBool 4 a bz :: Res.arr encBool 4 b b0 :: H) w' ∧ f' 1 = Value.pointer (some ⟨g, 0, none⟩) ∧ f' 2 = Value.pointer (some ⟨i, 0, none⟩) ∧ f' 3 = Value.pointer (some ⟨d, 0, none⟩) ∧ f' 5 = Vi (aS)) s') ca ?_ ?_)
  ·have cw := (cv).f4
   exact ⟨aX, (Zv _), ((((cw).f4).f4).f4).f4, cO, cP, cQ, rfl⟩
  intro dC be ea ff cd j cB
  obtain ⟨aS, bz, b0⟩ := dC
  replace j := un3_eq j
  obtain ⟨ev, az, bl, bB, bC, aI, bD⟩ := cd
  refine Zc (Zc (Zd (Za rfl rfl (Zm (v := Vi (aS)) rfl bD (Za rfl rfl (Exec.load_box_agg (ds := [a, b]) ((bl).f2) A64 rfl aI rfl ?_))))))
  obtain ⟨fr, de, j⟩ := Zg j
  refine Za rfl rfl (Tc rfl rfl rfl (Zi rfl args_nil) (ref19_Marks_count_o_sim de ((bl).f4).f4 ).r ?_)
  rintro _ fg ⟨d3, a0, aR, rfl⟩
  refine Za rfl rfl (Exec.neq rfl rfl rfl (Zb (Ze ?_)))
  rcases ite_some j with ⟨aw, j⟩ | ⟨aw, j⟩
  ·refine W_cond_t rfl aw (W_skip (Ze (W_block (Zc (Zd (Za rfl rfl (Exec.load_box_agg (ds := [a, b]) ((aR).f4) A64 rfl aI rfl ?_)))))))
   obtain ⟨aL, df, j⟩ := Zg j
   refine Za rfl rfl (Tc rfl rfl rfl (Zi rfl args_nil) (ref19_Marks_count_o_sim df ((aR).f1).f1 ).r ?_)
   rintro _ fh ⟨aY, aF, cx, rfl⟩
   refine Za rfl rfl (Zo (v := Vi (aL)) rfl rfl (Zb (Ze (Zc (Zd (Za rfl rfl (Zo (v := Vi (0)) rfl rfl (Zb (Ze ?_)))))))))
   obtain ⟨bf, cb, eh, c9, c6⟩ := ctl_some j
   refine W_mid (M := fun f' w' => ∃ s', (bf = .next s' ∨ bf = .brk s') ∧ (un3 fun (br : Int) (b1 : (List Bool)) (b2 : (List Bool)) => ∃ (bL : PHeap) , PHeap.le aY bL ∧ St w0 bL (Res.box g 28 [o, p, t, u, x] :: Res.box i 64 [Value.slice none 0 0, Value.slice none 0 0] :: Res.box d 64 [a, b] :: Res.arr encBool 4 a b1 :: Res.arr encBool 4 b b2 :: H) w' ∧ f' 1 = Value.pointer (some ⟨g, 0, none⟩) ∧ f' 2 = Value.pointer (some ⟨i, 0, none⟩) ∧ f' 3 = Value.pointer (some ⟨d, 0, none⟩) ∧ f' 5 = Vi (aL) ∧ f' 6 = Vi (br)) s') ?_ ?_
   ·refine W_block (W_while (fun s' f' w' => (un3 fun (z : Int) (b3 : (List Bool)) (b4 : (List Bool)) => ∃ (bM : PHeap) , PHeap.le aY bM ∧ St w0 bM (Res.box g 28 [o, p, t, u, x] :: Res.box i 64 [Value.slice none 0 0, Value.slice none 0 0] :: Res.box d 64 [a, b] :: Res.arr encBool 4 a b3 :: Res.arr encBool 4 b b4 :: H) w' ∧ f' 1 = Value.pointer (some ⟨g, 0, none⟩) ∧ f' 2 = Value.pointer (some ⟨i, 0, none⟩) ∧ f' 3 = Value.pointer (some ⟨d, 0, none⟩) ∧ f' 5 = Vi (aL) ∧ f' 6 = Vi (z)) s') cb ?_ ?_)
    ·have cy := (cx).f1
     exact ⟨aY, (Zv _), ((((cy).f1).f4).f4).f4, bB, bC, aI, rfl, rfl⟩
    intro dD bg eb fi ce k cC
    obtain ⟨z, b3, b4⟩ := dD
    replace k := un3_eq k
    obtain ⟨d4, a1, ae, ah, aU, a2, aV, ai⟩ := ce
    refine Zc (Zc (Zd (Za rfl rfl (Zm (v := Vi (z)) rfl ai (Za rfl rfl (Zp F28_4 rfl ah rfl (Za rfl rfl (Zn (ae) A26 rfl rfl rfl (Za rfl rfl (Zr S26 rfl rfl (aM.mono (Zt (Zt (Zt (Zt (Zt ag aE) az) a0) aF) a1)) (Za rfl rfl (Zq rfl rfl rfl (Zb (Ze ?_))))))))))))))
    rcases ite_some k with ⟨ax, k⟩ | ⟨ax, k⟩
    ·refine W_cond_t rfl ax (W_skip (Ze (Zc (W_block (Zc (W_dl (n0 := 7) (qs 0 6 (.e 6 [] .done)) hmix (by kernel_rfl) (by kernel_rfl) (DL_q rfl rfl (Exec.load_box_agg (ds := [a, b]) ((ae.drew).f2) A64 rfl a2 rfl ⟨rfl, ?_⟩))))))))
     refine DL_q rfl rfl (Zp F28_4 rfl ah rfl ⟨rfl, ?_⟩)
     refine DL_q rfl rfl (Zn (ae.drew) A26 rfl rfl rfl ⟨rfl, ?_⟩)
     refine DL_q rfl rfl (Zm (v := Vi (z)) rfl ai ⟨rfl, ?_⟩)
     obtain ⟨fq, bF, k⟩ := Zg k
     refine DL_q rfl rfl (Exec.index_repE S26 rfl rfl rfl (aM.mono (Zt (Zt (Zt (Zt (Zt ag aE) az) a0) aF) a1)) bF ?_)
     intro dJ en bT dO
     refine ⟨rfl, ?_⟩
     refine DL_q rfl rfl (Zw (E := encGOp) ae.drew A51 rfl rfl rfl bT ?_)
     intro eC dg
     obtain ⟨e1, e2, e3, e4, e5, rfl, dn, dp, dq, dr, dt⟩ := encGOp_val.1 dg
     refine ⟨rfl, ?_⟩
     obtain ⟨fs, dh, k⟩ := Zg k
     refine DL_e rfl rfl (Tc rfl rfl rfl (Zi rfl (Zi rfl args_nil)) (ref19_Marks_Touches_o_sim dh ((ae.drew).f4).f4 dn dp dq dr dt).r ?_)
     rintro _ fj ⟨bN, b5, au, rfl⟩
     refine ⟨ag_nil, ?_⟩
     refine DL_done (Zb (Ze ?_))
     obtain ⟨aK, y, k⟩ := Zg k
     refine W_mid (M := fun f' w' => (un2 fun (b6 : (List Bool)) (b7 : (List Bool)) => ∃ (bO : PHeap) , PHeap.le bN bO ∧ St w0 bO (Res.box g 28 [o, p, t, u, x] :: Res.box i 64 [Value.slice none 0 0, Value.slice none 0 0] :: Res.box d 64 [a, b] :: Res.arr encBool 4 a b6 :: Res.arr encBool 4 b b7 :: H) w' ∧ f' 1 = Value.pointer (some ⟨g, 0, none⟩) ∧ f' 2 = Value.pointer (some ⟨i, 0, none⟩) ∧ f' 3 = Value.pointer (some ⟨d, 0, none⟩) ∧ f' 5 = Vi (aL) ∧ f' 6 = Vi (z)) aK) ?_ ?_
     ·rcases ite_some y with ⟨ay, y⟩ | ⟨ay, y⟩
      ·refine W_cond_t rfl ay (W_dl (n0 := 7) (qs 0 6 (.e 6 [] .done)) hmix (by kernel_rfl) (by kernel_rfl) (DL_q rfl rfl (Exec.load_box_agg (ds := [a, b]) ((au.drew).f4) A64 rfl a2 rfl ⟨rfl, ?_⟩)))
       refine DL_q rfl rfl (Zp F28_4 rfl ah rfl ⟨rfl, ?_⟩)
       refine DL_q rfl rfl (Zn ((au.drew).f2) A26 rfl rfl rfl ⟨rfl, ?_⟩)
       refine DL_q rfl rfl (Zm (v := Vi (z)) rfl ai ⟨rfl, ?_⟩)
       refine DL_q rfl rfl (Exec.index_repE S26 rfl rfl rfl (aM.mono (Zt (Zt (Zt (Zt (Zt (Zt ag aE) az) a0) aF) a1) b5)) bF ?_)
       intro dK eo bU dP
       refine ⟨rfl, ?_⟩
       refine DL_q rfl rfl (Zw (E := encGOp) au.drew A51 rfl rfl rfl bU ?_)
       intro eD di
       obtain ⟨e6, e7, e8, e9, eA, rfl, du, dv, dw, dx, dy⟩ := encGOp_val.1 di
       refine ⟨rfl, ?_⟩
       obtain ⟨dE, dj, y⟩ := Zg y
       obtain ⟨ek, el⟩ := dE
       replace y := un2_eq y
       refine DL_e rfl rfl (Tc rfl rfl rfl (Zi rfl (Zi rfl args_nil)) (ref19_Marks_operator_o_sim dj ((au.drew).f1).f1 du dv dw dx dy).r ?_)
       rintro _ fk ⟨d5, cG, cz, rfl⟩
       refine ⟨ag_nil, ?_⟩
       refine DL_done (Zb (Ze ?_))
       have dQ := Zu y
       subst aK
       exact ⟨d5, cG, (((((cz).f1).f1).f4).f4).f4, ah, aU, a2, aV, ai⟩
      refine W_cond_f rfl ay ?_
      replace ay := Zk ay
      refine W_skip (Ze ?_)
      have dR := Zu y
      subst aK
      exact ⟨bN, (Zv _), (((((au).f1).f1).f4).f4).f4, ah, aU, a2, aV, ai⟩
     intro ec fl ch
     obtain ⟨b6, b7⟩ := aK
     replace k := un2_eq k
     obtain ⟨d6, cH, c0, cR, cS, cT, cU, cV⟩ := ch
     refine (ib_normal (Ze (Zd (Za rfl rfl (Zm (v := Vi (z)) rfl cV (Za rfl rfl (Exec.add rfl rfl rfl (Za rfl rfl (Zo (v := Vi (IntKind.i64.wrap (z + 1))) rfl rfl (Zb (Ze ?_)))))))))))
     have dS := Zu k
     subst bg
     refine ⟨_, rfl, ?_⟩; exact ⟨d6, (Zt (Zt a1 b5) cH), (((((c0).f4).f4).f4).f4).f4, cR, cS, cT, cU, rfl⟩
    refine W_cond_f rfl ax ?_
    replace ax := Zk ax
    refine W_exit (at_exit (at_exit (ib_here (Ze ?_))))
    have dT := Zu k
    subst bg
    refine ⟨_, .inr (cC (by intro _ h; cases h)), ?_⟩; exact ⟨d4, a1, (((((ae).f4).f4).f4).f4).f4, ah, aU, a2, aV, ai⟩
   rintro ed fm ⟨dF, bo, ci⟩
   have j := bo.elim (c9 _) (c6 _)
   clear bo
   obtain ⟨br, b1, b2⟩ := dF
   replace j := un3_eq j
   obtain ⟨d7, cI, c1, cW, cX, cY, cZ, er⟩ := ci
   refine (ib_normal (Ze ?_))
   have dU := Zu j
   subst be
   refine ⟨_, rfl, ?_⟩; exact ⟨d7, (Zt (Zt (Zt az a0) aF) cI), (((((c1).f4).f4).f4).f4).f4, cW, cX, cY, cZ⟩
  refine W_cond_f rfl aw ?_
  replace aw := Zk aw
  refine W_exit (at_exit (at_exit (ib_here (Ze ?_))))
  have dV := Zu j
  subst be
  refine ⟨_, .inr (cB (by intro _ h; cases h)), ?_⟩; exact ⟨d3, (Zt az a0), (((((aR).f1).f1).f4).f4).f4, bB, bC, aI, bD⟩
 rintro ee fn ⟨dG, bp, cj⟩
 have hm := bp.elim (c8 _) (c5 _)
 clear bp
 obtain ⟨b9, bw, bx⟩ := dG
 replace hm := un3_eq hm
 obtain ⟨ew, cJ, aC, et, bE, da, eu⟩ := cj
 refine (Ze (Zc (Zd (Za rfl rfl (Exec.load_box_agg (ds := [a, b]) ((aC).f2) A64 rfl da rfl (Za rfl rfl (Exec.store_box (ds := [a, b]) (es := [a, b]) (aC).f1 A64 rfl bE rfl rfl (Zj (((aC).f1).f3).arr_one (Zj (((aC).f1).f4).arr_one one_nil)) (Nat.le_of_ble_eq_true rfl) rfl ?_)))))))
 intro fo bm
 refine Zb (Ze (W_ret ?_))
 have dW := Zu hm
 subst r
 refine ⟨_, retG1 rfl ⟨_, _, bE, cellRes (bm) A64⟩, ?_⟩
 obtain ⟨ex, cK, c2, dz⟩ := (bm).f3.freezeArr
 obtain ⟨d8, b8, c3, d0⟩ := (c2).f3.freezeArr
 exact ⟨d8, a, b, (Zt (Zt (Zt (Zt ag aE) cJ) cK) b8), (((c3).drop).drop).drop, rfl, (dz.mono b8), d0⟩
theorem law19_bools_sim {w0 w : World} {s : PHeap} {H : List Res} {u : (List Bool)} {y : (List Bool)} {c : Value} {g : Value} {r : Bool} (hm : law19_bools_p u y = some r) (hS : St w0 s (H) w) (o : SliceRep encBool s c u) (x : SliceRep encBool s g y) :
  Calls Try.prog 24 #[c, g] w fun e w' => ∃ v, e = .returned v ∧ ((fun (ay : Bool) => ∃ (ad : PHeap) , PHeap.le s ad ∧ St w0 ad (H) w' ∧ v = Value.bool (ay)) r) := by
 unfold law19_bools_p at hm
 refine calls_of_W Try.func24 rfl rfl (Zc (Zd (Za rfl rfl (Zo (v := Value.bool (false)) rfl rfl (Zb (Ze (Zc (Zc (Zd (Za rfl rfl (Zm (v := c) rfl rfl (Za rfl rfl (Zr S60 rfl rfl o (Za rfl rfl (Zm (v := g) rfl rfl (Za rfl rfl (Zr S60 rfl rfl x (Za rfl rfl (Exec.neq rfl rfl rfl (Zb (Ze ?_)))))))))))))))))))))
 rcases ite_some hm with ⟨j, hm⟩ | ⟨j, hm⟩
 ·refine W_cond_t rfl j (Zc (Zd (Za rfl rfl (Zo (v := Value.bool (false)) rfl rfl (Zb (Ze (W_ret (at_ret ?_))))))))
  have a1 := Zu hm
  subst r
  refine ⟨_, ret1 rfl, ?_⟩
  exact ⟨s, (Zv _), hS, rfl⟩
 refine W_cond_f rfl j ?_
 replace j := Zk j
 refine W_skip (Ze (Zc (Zc (Zd (Za rfl rfl (Zo (v := Vi (0)) rfl rfl (Zb (Ze ?_))))))))
 obtain ⟨z, ai, ap, an, am⟩ := ctl_some hm
 refine W_mid (M := fun f' w' => ∃ s', (z = .next s' ∨ z = .brk s') ∧ (fun (ac : Int) => ∃ (ae : PHeap) , PHeap.le s ae ∧ St w0 ae (H) w' ∧ f' 0 = c ∧ f' 1 = g ∧ f' 5 = Vi (ac)) s') ?_ ?_
 ·refine W_block (W_while (fun s' f' w' => (fun (b : Int) => ∃ (af : PHeap) , PHeap.le s af ∧ St w0 af (H) w' ∧ f' 0 = c ∧ f' 1 = g ∧ f' 5 = Vi (b)) s') ai ?_ ?_)
  ·exact ⟨s, (Zv _), hS, rfl, rfl, rfl⟩
  intro b p a9 aI aj a ab
  obtain ⟨t, d, i, n, q, m⟩ := aj
  refine Zc (Zc (Zd (Za rfl rfl (Zm (v := Vi (b)) rfl m (Za rfl rfl (Zm (v := c) rfl n (Za rfl rfl (Zr S60 rfl rfl (o.mono d) (Za rfl rfl (Zq rfl rfl rfl (Zb (Ze ?_))))))))))))
  rcases ite_some a with ⟨k, a⟩ | ⟨k, a⟩
  ·refine W_cond_t rfl k (W_skip (Ze (Zc (W_block (Zc (W_dl (n0 := 9) (qs 0 9 .done) hmix (by kernel_rfl) (by kernel_rfl) (DL_q rfl rfl (Zm (v := c) rfl n ⟨rfl, ?_⟩))))))))
   refine DL_q rfl rfl (Zm (v := Vi (b)) rfl m ⟨rfl, ?_⟩)
   obtain ⟨aK, ar, a⟩ := Zg a
   refine DL_q rfl rfl (Exec.index_repE S60 rfl rfl rfl (o.mono d) ar ?_)
   intro az aB ag a2
   refine ⟨rfl, ?_⟩
   refine DL_q rfl rfl (Zw (E := encBool) i.drew A4 rfl rfl rfl ag ?_)
   intro aG au
   obtain rfl := encBool_val.1 au
   refine ⟨rfl, ?_⟩
   refine DL_q rfl rfl (Zm (v := g) rfl q ⟨rfl, ?_⟩)
   refine DL_q rfl rfl (Zm (v := Vi (b)) rfl m ⟨rfl, ?_⟩)
   obtain ⟨aL, av, a⟩ := Zg a
   refine DL_q rfl rfl (Exec.index_repE S60 rfl rfl rfl (x.mono d) av ?_)
   intro a0 aC ah a3
   refine ⟨rfl, ?_⟩
   refine DL_q rfl rfl (Zw (E := encBool) i.drew A4 rfl rfl rfl ah ?_)
   intro aH aw
   obtain rfl := encBool_val.1 aw
   refine ⟨rfl, ?_⟩
   refine DL_q rfl rfl (Exec.bool_neq Try.underlying4 rfl rfl rfl ⟨rfl, ?_⟩)
   refine DL_done (Zb (Ze ?_))
   rcases ite_some a with ⟨l, a⟩ | ⟨l, a⟩
   ·refine W_cond_t rfl l (Zc (Zd (Za rfl rfl (Zo (v := Value.bool (false)) rfl rfl (Zb (Ze (W_ret (ib_ret (at_ret (at_ret (ib_ret (at_ret (at_ret ?_)))))))))))))
    have a4 := Zu a
    subst p
    have ao := ap _ (ab (by intro _ h; cases h))
    have a5 := Zu ao
    subst r
    refine ⟨_, ret1 rfl, ?_⟩
    exact ⟨t, d, i.drew, rfl⟩
   refine W_cond_f rfl l ?_
   replace l := Zk l
   refine W_skip (ib_normal (Ze (Zd (Za rfl rfl (Zm (v := Vi (b)) rfl m (Za rfl rfl (Exec.add rfl rfl rfl (Za rfl rfl (Zo (v := Vi (IntKind.i64.wrap (b + 1))) rfl rfl (Zb (Ze ?_)))))))))))
   have a6 := Zu a
   subst p
   refine ⟨_, rfl, ?_⟩; exact ⟨t, d, i.drew, n, q, rfl⟩
  refine W_cond_f rfl k ?_
  replace k := Zk k
  refine W_exit (at_exit (at_exit (ib_here (Ze ?_))))
  have a7 := Zu a
  subst p
  refine ⟨_, .inr (ab (by intro _ h; cases h)), ?_⟩; exact ⟨t, d, i, n, q, m⟩
 rintro aA aJ ⟨ac, aa, ak⟩
 have hm := aa.elim (an _) (am _)
 clear aa
 obtain ⟨ax, aq, al, aD, aE, aF⟩ := ak
 refine (Ze (Zc (Zd (Za rfl rfl (Zo (v := Value.bool (true)) rfl rfl (Zb (Ze (W_ret ?_))))))))
 have a8 := Zu hm
 subst r
 refine ⟨_, ret1 rfl, ?_⟩
 exact ⟨ax, aq, al, rfl⟩
theorem law19_SimplifyRelevant_sim {w0 w : World} {s : PHeap} {H : List Res} {fu : Nat} {g1 : Ground} {v2 : Value} {v4 : Value} {v6 : Value} {v8 : Value} {v10 : Value} {r : Bool} (hm : law19_SimplifyRelevant_p fu g1 = some r) (hS : St w0 s (H) w) (a3 : SliceRep encAtom s v2 g1.Atoms) (a5 : SliceRep encGFluent s v4 g1.Fluents) (a7 : SliceRep (encInt .i64) s v6 g1.Init) (a9 : SliceRep encCond s v8 g1.Goal) (a11 : SliceRep encGOp s v10 g1.Ops) :
  Calls Try.prog 7 #[Value.agg #[v2, v4, v6, v8, v10]] w fun e w' => ∃ v, e = .returned v ∧ ((fun (y13 : Bool) => ∃ (ap : PHeap) , PHeap.le s ap ∧ St w0 ap (H) w' ∧ v = Value.bool (y13)) r) := by
 unfold law19_SimplifyRelevant_p at hm
 refine calls_of_W Try.func7 rfl rfl (Zc (Zd (Za rfl rfl (Exec.box (cs := [v2, v4, v6, v8, v10]) hS rfl rfl rfl ?_))))
 intro ae bu af
 refine Za rfl rfl (Zo (v := Value.bool (false)) rfl rfl (Zb (Ze (Zc (Zc ?_)))))
 obtain ⟨t, k, hm⟩ := Zg hm
 refine W_mid (M := fun f' w' => (fun (t : Bool) => ∃ (aq : PHeap) , PHeap.le s aq ∧ St w0 aq (Res.box ae 28 [v2, v4, v6, v8, v10] :: H) w' ∧ f' 1 = Value.pointer (some ⟨ae, 0, none⟩) ∧ f' 12 = Value.bool (t)) t) ?_ ?_
 ·refine Zd (Za rfl rfl (Exec.load_box_agg (ds := [v2, v4, v6, v8, v10]) (af) A28 rfl rfl rfl ?_))
  obtain ⟨bd, aM, k⟩ := Zg k
  refine Za rfl rfl (Tc rfl rfl rfl (Zi rfl args_nil) (law18_Large_sim aM af a3 a5 a7 a9 a11).r ?_)
  rintro _ bv ⟨aU, aj, ag, rfl⟩
  refine Za rfl rfl (Zm (v := Value.bool (bd)) rfl rfl ?_)
  rcases ite_some k with ⟨l, k⟩ | ⟨l, k⟩
  ·refine WL_passes 3 (by rw [l]; rfl) ?_
   refine Zb (Ze ?_)
   have bh := Zu k
   subst t
   exact ⟨aU, aj, ag, rfl, rfl⟩
  replace l := Zk l
  obtain ⟨be, aN, k⟩ := Zg k
  refine WL_run rfl (Zf rfl (Zx l)) rfl (Tc rfl rfl rfl args_nil (law19_awake_sim aN ag ).r ?_)
  rintro _ bw ⟨aV, aF, a6, rfl⟩
  refine WL_run rfl (Zf rfl (Zx l)) rfl (Exec.not rfl rfl (Za rfl rfl (Exec.pick_f (v := Value.bool (!be)) rfl (Zx l) rfl (Zb (Ze ?_)))))
  have bi := Zu k
  subst t
  exact ⟨aV, (Zt aj aF), a6, rfl, rfl⟩
 intro bp bx a1
 obtain ⟨bs, a, y, ad, ak⟩ := a1
 refine (Ze ?_)
 rcases ite_some hm with ⟨n, hm⟩ | ⟨n, hm⟩
 ·refine W_cond_t ak n (Zc (Zd ?_))
  obtain ⟨bf, aO, hm⟩ := Zg hm
  refine Za rfl rfl (Tc rfl rfl rfl args_nil (law19_awake_sim aO y ).r ?_)
  rintro _ bz ⟨aW, aG, a8, rfl⟩
  refine Za rfl rfl (Zo (v := Value.bool (bf)) rfl rfl (Zb (Ze (W_ret (at_ret ?_)))))
  have bj := Zu hm
  subst r
  refine ⟨_, ret1 rfl, ?_⟩
  exact ⟨aW, (Zt a aG), (a8).drop, rfl⟩
 refine W_cond_f ak n ?_
 replace n := Zk n
 refine W_skip (Ze (Zc (Zd (Za rfl rfl (Exec.load_box_agg (ds := [v2, v4, v6, v8, v10]) (y) A28 rfl ad rfl ?_)))))
 obtain ⟨bc, aP, hm⟩ := Zg hm
 obtain ⟨az, a0, h⟩ := bc
 replace hm := un3_eq hm
 refine Za rfl rfl (Tc rfl rfl rfl (Zi rfl args_nil) (simplify_Relevant_sim aP y (a3.mono a) (a5.mono a) (a7.mono a) (a9.mono a) (a11.mono a)).r ?_)
 rintro _ b0 ⟨bt, p, q, d, ah, rfl, al, am⟩
 refine Za rfl rfl (Zm (v := Value.tuple #[p, q, errV 41 (h)]) rfl rfl (Za rfl rfl (Exec.extract (v := p) rfl rfl rfl (Za rfl rfl (Exec.extract (v := q) rfl rfl rfl (Za rfl rfl (Exec.extract (v := errV 41 (h)) rfl rfl rfl (Za rfl rfl (Zo (v := p) rfl rfl (Za rfl rfl (Zo (v := q) rfl rfl (Za rfl rfl (Zo (v := errV 41 (h)) rfl rfl (Zb (Ze (Zc (Zc (Zd (Za rfl rfl (Exec.load_box_agg (ds := [v2, v4, v6, v8, v10]) (ah) A28 rfl ad rfl ?_))))))))))))))))))))
 obtain ⟨bA, aQ, hm⟩ := Zg hm
 refine Za rfl rfl (Tc rfl rfl rfl (Zi rfl args_nil) (ref18_Valid_sim aQ ah (a3.mono (Zt a d)) (a5.mono (Zt a d)) (a7.mono (Zt a d)) (a9.mono (Zt a d)) (a11.mono (Zt a d))).r ?_)
 rintro _ b1 ⟨aX, g, z, rfl⟩
 refine Za rfl rfl (Exec.not rfl rfl (Zb (Ze ?_)))
 rcases ite_some hm with ⟨o, hm⟩ | ⟨o, hm⟩
 ·refine W_cond_t rfl o (Zc (W_mid (M := fun f' w' => ∃ (ar : PHeap) , PHeap.le aX ar ∧ St w0 ar (H) w' ∧ f' 2 = Value.bool (((base_Is_t h 2) && decide ((IntKind.i64.wrap ((az.length : Int) + (a0.length : Int))) = 0)))) ?_ ?_))
  ·refine Zd (Za rfl rfl (Zm (v := errV 41 (h)) rfl rfl (Za rfl rfl (Tc rfl rfl rfl (Zi rfl (Zi rfl args_nil)) (base_Is_sim (base_Is_tot h 2) z ).r ?_))))
   rintro _ b2 ⟨au, u, ai, rfl⟩
   refine Za rfl rfl (Zm (v := Value.bool ((base_Is_t h 2))) rfl rfl ?_)
   by_cases c : (base_Is_t h 2) = true
   ·refine WL_run rfl (Zf rfl (Zx c)) rfl (Zm (v := p) rfl rfl (WL_run rfl (Zf rfl (Zx c)) rfl (Zr S60 rfl rfl (al.mono (Zt g u)) (WL_run rfl (Zf rfl (Zx c)) rfl (Zm (v := q) rfl rfl (WL_run rfl (Zf rfl (Zx c)) rfl (Zr S60 rfl rfl (am.mono (Zt g u)) (WL_run rfl (Zf rfl (Zx c)) rfl (Exec.add rfl rfl rfl (WL_run rfl (Zf rfl (Zx c)) rfl (Exec.eql rfl rfl rfl ?_)))))))))))
    refine WL_passes 2 (by rw [c]; rfl) ?_
    refine Zb (Ze ?_)
    exact ⟨au, u, (ai).drop, (Zx (and_t c)).symm⟩
   replace c := Zk c
   refine WL_passes 8 (by rw [c]; rfl) ?_
   refine Zb (Ze ?_)
   exact ⟨au, u, (ai).drop, (Zx (and_f c)).symm⟩
  intro bq b3 a2
  obtain ⟨aY, aH, aA, aK⟩ := a2
  refine (Ze (W_ret (at_ret ?_)))
  have bk := Zu hm
  subst r
  refine ⟨_, ret1 rfl, ?_⟩
  exact ⟨aY, (Zt (Zt (Zt a d) g) aH), aA, aK⟩
 refine W_cond_f rfl o ?_
 replace o := Zk o
 refine W_skip (Ze (Zc (Zd (Za rfl rfl (Exec.load_box_agg (ds := [v2, v4, v6, v8, v10]) (z) A28 rfl ad rfl ?_)))))
 obtain ⟨bB, aR, hm⟩ := Zg hm
 refine Za rfl rfl (Tc rfl rfl rfl (Zi rfl args_nil) (ref19_Relevant_sim aR z (a3.mono (Zt (Zt a d) g)) (a5.mono (Zt (Zt a d) g)) (a7.mono (Zt (Zt a d) g)) (a9.mono (Zt (Zt a d) g)) (a11.mono (Zt (Zt a d) g))).r ?_)
 rintro _ b4 ⟨av, ax, ay, ac, aB, rfl, an, ao⟩
 refine Za rfl rfl (Exec.alloc (cs := [Value.slice none 0 0, Value.slice none 0 0]) aB Z64 rfl rfl ?_)
 intro bg b5 aC
 refine Za rfl rfl (Exec.store_box (ds := [ax, ay]) (es := [ax, ay]) aC A64 rfl rfl rfl rfl (Zj (an).one (Zj (ao).one one_nil)) (Nat.le_of_ble_eq_true rfl) rfl ?_)
 intro b6 aa
 refine Zb (Ze (Zc ?_))
 obtain ⟨m, b, hm⟩ := Zg hm
 refine W_mid (M := fun f' w' => (fun (m : Bool) => ∃ (aw : PHeap) , PHeap.le av aw ∧ St w0 aw (H) w' ∧ f' 2 = Value.bool (m)) m) ?_ ?_
 ·refine Zd (Za rfl rfl (Zm (v := errV 41 (h)) rfl rfl (Za rfl rfl (Exec.err_eql_nil (T := 41) Try.underlying34 rfl rfl rfl (Za rfl rfl (Zm (v := Value.bool (h.isNone)) rfl rfl ?_))))))
  rcases ite_some b with ⟨i, b⟩ | ⟨i, b⟩
  ·refine WL_run rfl (Zf rfl (Zx i)) rfl (Zm (v := p) rfl rfl (WL_run rfl (Zf rfl (Zx i)) rfl (Zp F64_0 rfl rfl rfl (WL_run rfl (Zf rfl (Zx i)) rfl (Zn (aa) A60 rfl rfl rfl ?_)))))
   obtain ⟨bC, aS, b⟩ := Zg b
   refine WL_run rfl (Zf rfl (Zx i)) rfl (Tc rfl rfl rfl (Zi rfl (Zi rfl args_nil)) (law19_bools_sim aS aa (al.mono (Zt g ac)) an).r ?_)
   rintro _ b7 ⟨aZ, x, ab, rfl⟩
   refine WL_passes 2 (by rw [i]; rfl) ?_
   rcases ite_some b with ⟨j, b⟩ | ⟨j, b⟩
   ·refine WL_run rfl (Zf rfl (Zx j)) rfl (Zm (v := q) rfl rfl (WL_run rfl (Zf rfl (Zx j)) rfl (Zp F64_1 rfl rfl rfl (WL_run rfl (Zf rfl (Zx j)) rfl (Zn (ab) A60 rfl rfl rfl ?_)))))
    obtain ⟨bD, aT, b⟩ := Zg b
    refine WL_run rfl (Zf rfl (Zx j)) rfl (Tc rfl rfl rfl (Zi rfl (Zi rfl args_nil)) (law19_bools_sim aT ab (am.mono (Zt (Zt g ac) x)) (ao.mono x)).r ?_)
    rintro _ b8 ⟨ba, aI, aD, rfl⟩
    refine WL_passes 2 (by rw [j]; rfl) ?_
    refine Zb (Ze ?_)
    have bl := Zu b
    subst m
    exact ⟨ba, (Zt x aI), ((aD).drop).drop, rfl⟩
   replace j := Zk j
   refine WL_passes 6 (by rw [j]; rfl) ?_
   refine Zb (Ze ?_)
   have bm := Zu b
   subst m
   exact ⟨aZ, x, ((ab).drop).drop, rfl⟩
  replace i := Zk i
  refine WL_passes 12 (by rw [i]; rfl) ?_
  refine Zb (Ze ?_)
  have bn := Zu b
  subst m
  exact ⟨av, (Zv _), ((aa).drop).drop, rfl⟩
 intro br b9 a4
 obtain ⟨bb, aJ, aE, aL⟩ := a4
 refine (Ze (W_ret ?_))
 have bo := Zu hm
 subst r
 refine ⟨_, ret1 rfl, ?_⟩
 exact ⟨bb, (Zt (Zt (Zt (Zt a d) g) ac) aJ), aE, aL⟩
end Go.Pw
